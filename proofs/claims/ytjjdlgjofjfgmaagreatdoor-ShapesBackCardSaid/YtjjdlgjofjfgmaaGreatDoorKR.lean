/-
  What a row asks whose law is stated up to a size, over a tied card: a claim out of a contract; a witness; the library's errors.
-/
import Derived.JoinedCond
import Derived.LaidHandle
import Derived.LaidSub
import Derived.Test.YtjjdlgjofjfgmaaGreatDoorDocP
import Derived.Test.YtjjdlgjofjfgmaaGreatDoorKC
import Derived.Test.YtjjdlgjofjfgmaaGreatDoorKD
import Derived.Test.YtjjdlgjofjfgmaaGreatDoorKG
import Derived.Test.YtjjdlgjofjfgmaaGreatDoorKQ
set_option linter.unusedSimpArgs false
set_option linter.unusedVariables false
namespace Go.Proofs.YtjjdlgjofjfgmaaGreatDoor
open Go.ChangeShapes Go.WideShapes Go.ChangeAt Go.RowKit
section
variable {H : Type} {enc : TypeId × Value → H}
theorem iface_of_trod {P : Program} {W : World} {base : Nat} {sp : Nat → Bool} {hd : Bool} {fuel : Nat} {t : TypeId} {cs : List Value} {x} {ms : Array (String × TypeId)} (ht : P.underlying t = some (.interface ms)) (h : DataW.trod enc P W base sp hd fuel t cs = some x) :
    ∃ ev, cs = [ev] ∧ (ev = .nilIface ∨ ∃ te pe, ev = .iface te pe) := by
  cases fuel with
  | zero => simp [DataW.trod] at h
  | succ n =>
    unfold DataW.trod at h
    rw [ht] at h
    simp only at h

    split at h <;> first | exact ⟨_, rfl, .inl rfl⟩ | exact ⟨_, rfl, .inr ⟨_, _, rfl⟩⟩ | (rename_i heq; cases heq; done) | (rename_i heq _; cases heq; done) | (exfalso; simp_all; done) | (exfalso; rename_i heq; nomatch heq)
end

theorem iface_of_laid {W : World} {l : List (String × DataW Unit)} {ps : List MemPlace} {nm : String} {d : DataW Unit} {g t : Nat} {ms : Array (String × TypeId)} (hl : DataW.LaidVars Tryz.prog W l ps) (hmem : (nm, d) ∈ l)
    (g1 : Tryz.prog.globalNamed nm = some g) (g2 : (Tryz.prog.globals[g]?).map (·.type) = some t) (hu : Tryz.prog.underlying t = some (.interface ms)) :
    ∃ ev, W.cell? ⟨g, 0, none⟩ = some ev ∧ (ev = .nilIface ∨ ∃ te pe, ev = .iface te pe) := by
  obtain ⟨g', t', cs, fuel, p, h1, h2, h3, h4⟩ := laid_mem hl hmem
  obtain rfl := Option.some.inj (g1.symm.trans h1)
  obtain rfl := Option.some.inj (g2.symm.trans h2)
  obtain ⟨ev, he, hc⟩ := iface_of_trod hu h4
  refine ⟨ev, ?_, hc⟩
  unfold World.var? at h3
  rw [g1] at h3
  simp only [Option.bind_some] at h3
  split at h3
  · rename_i cs' t2 fr hh
    cases h3
    have hs : cs[0]? = some ev := by
      rw [← Array.getElem?_toList, he]
      rfl
    simp [World.cell?, hh, hs]
  · simp at h3

theorem errs_of {W : World} {l : List (String × DataW Unit)} (hp : (l.all fun x => x.2.handleName?.isNone) = true) (hm1 : ("strconv.ErrRange", Rows.laid_strconv_ErrRange) ∈ l) (hm2 : ("strconv.ErrSyntax", Rows.laid_strconv_ErrSyntax) ∈ l) (h : laidMetH Tryz.prog l W) : ErrsAt W := by
  obtain ⟨ms, hu⟩ : ∃ ms, Tryz.prog.underlying 71 = some (.interface ms) := by
    have h : (match Tryz.prog.underlying 71 with | some (.interface _) => true | _ => false) = true := by kernel_rfl
    revert h
    generalize Tryz.prog.underlying 71 = u
    intro h
    match u, h with
    | some (.interface f), _ => exact ⟨f, rfl⟩
  rw [MakeChecks.laidMetH_plain _ _ _ hp] at h
  obtain ⟨ps, hl, _⟩ := h
  exact ⟨iface_of_laid hl hm1 (by kernel_rfl) (by kernel_rfl) hu, iface_of_laid hl hm2 (by kernel_rfl) (by kernel_rfl) hu⟩
end Go.Proofs.YtjjdlgjofjfgmaaGreatDoor
/-
  The law ShapesParse, walked. (Printed by gen_lawParse.py.)
-/
set_option linter.unusedSimpArgs false
set_option linter.unusedVariables false
namespace Go.Proofs.YtjjdlgjofjfgmaaGreatDoor
open Go.RowKit Go.Sort

theorem rd_zip : ∀ (ms : List MethS) (cs : List Value), ms.length = cs.length → (List.zipWith methOf ms cs).map methSOf = ms
  | [], [], _ => rfl
  | m :: t, c :: s, h => by
    have ih := rd_zip t s (by simpa using h)
    show methSOf (methOf m c) :: (List.zipWith methOf t s).map methSOf = m :: t
    rw [ih]
    rfl
  | [], c :: s, h => by simp at h
  | m :: t, [], h => by simp at h
theorem rd_clsOf (r : RdS) (vi vm : Value) (cs : List Value) (h : r.ms.length = cs.length) : rdOf (clsOf r vi vm cs) = { r with st := 8 } := by
  show RdS.mk r.nm r.sup r.ifs r.fl r.ld ((List.zipWith methOf r.ms cs).map methSOf) 8 = _
  rw [rd_zip r.ms cs h]
def zeroL : ClassL := ⟨[], [], none, 0, [], 0, 0, none, 0, []⟩
theorem zeroL_fit (w : World) : zeroL.fit w :=
  ⟨by simp [zeroL], by simp [zeroL], fun h => absurd rfl h, by simp [zeroL], by simp [zeroL], by simp [zeroL], fun h => absurd rfl h, by simp [zeroL], by simp [zeroL], by simp [zeroL], by simp [zeroL], by simp [zeroL]⟩
theorem zeroL_v : zeroL.v = .agg #[.string ⟨#[]⟩, .string ⟨#[]⟩, .slice none 0 0, .int .i64 0, .int .i64 0, .slice none 0 0] := rfl
/-- The handle that the library keeps in its first variable. -/
def HandleAt (w : World) : Prop := w.cell? ⟨0, 0, none⟩ = some (.iface 194 (.agg #[.pointer (some ⟨9, 71, none⟩)]))
theorem HandleAt.upd {w w' : World} (h : HandleAt w) (u : Upd w w' []) : HandleAt w' := by
  unfold HandleAt at h ⊢
  rw [u.cells.1 0 0 (World.block_lt_of_cell? w _ h)]
  exact h

set_option maxHeartbeats 8000000 in
set_option maxRecDepth 100000 in
theorem shapesParse_walk (l : List UInt8) (w : World) (hl : l.length ≤ 9000000000000000000) (hm : Rdy w) (he : ErrsAt w) (hg : HandleAt w) : Calls Tryz.prog 5 #[.string (bs l)] w fun e w' => e = .returned (.bool true) ∧ Upd w w' [] := by
  have Haw := fun w hm => hid (awake5_any w hm)
  have Hpi := fun w hm he (hg : HandleAt w) => hid (parseCls_any l w hl hm he hg)
  have Hpd := fun w => hid (parseClsR_any l w hl)
  have HM := hid hm
  have HE := hid he
  have HG := hid hg
  clear hm he hg hl
  go_enter Tryz.func5, Tryz.ntmps5
  go_wp2_with fail
  refine (Haw _ HM.out).out.mono ?_
  rintro e w1 ⟨rfl, hU⟩
  have HU1 := hid hU
  clear hU Haw
  go_wp2_with fail
  refine (Hpi _ (HM.out.upd HU1.out) (HE.out.upd HU1.out) (HG.out.upd HU1.out)).out.mono ?_
  intro e w2 hp
  unfold textPost at hp
  clear Hpi HM HE HG
  cases hO : textO l with
  | inl r =>
    rw [hO] at hp
    simp only at hp
    obtain ⟨hp, hU⟩ := hp
    obtain ⟨vi, vm, cs, rfl, hL, hfi, kw, hk, hwf⟩ := hp
    have HF2 := hid (hL.fit hfi hwf (by omega))
    have Hval := hid hL.val
    obtain ⟨A1, c1, rfl, -, -⟩ := own_slice hL.oi
    obtain ⟨A2, c2, rfl, -, -⟩ := own_slice hL.om
    have HLen := hid hL.len
    clear hL
    have HU2 := hid ((HU1.out.trans hU).alloc (.cells #[.string (bs r.nm), .string (bs r.sup), .slice A1 r.ifs.length c1, .int .i64 r.fl, .int .i64 r.ld, .slice A2 r.ms.length c2] 25))
    have HB2 := hid (Blk.new w2 25 #[.string (bs r.nm), .string (bs r.sup), .slice A1 r.ifs.length c1, .int .i64 r.fl, .int .i64 r.ld, .slice A2 r.ms.length c2])
    have HF2 := hid (HF2.out.upd ((Upd.refl w2 []).alloc (.cells #[.string (bs r.nm), .string (bs r.sup), .slice A1 r.ifs.length c1, .int .i64 r.fl, .int .i64 r.ld, .slice A2 r.ms.length c2] 25)))
    clear hU
    have hz2 : (w2.alloc (.cells #[.string (bs r.nm), .string (bs r.sup), .slice A1 r.ifs.length c1, .int .i64 r.fl, .int .i64 r.ld, .slice A2 r.ms.length c2] 25)).heap.size = w2.heap.size + 1 := by simp
    go_wp2_with fail
    refine (Hpd _).out.mono ?_
    intro e w3 hp
    unfold textPost at hp
    rw [hO] at hp
    obtain ⟨hp, hU⟩ := hp
    simp only at hp
    obtain ⟨vi', vm', cs', rfl, hL, -, -⟩ := hp
    have HF3 := hid (hL.fit hfi hwf (by omega))
    have Hval3 := hid hL.val
    obtain ⟨B1, d1, rfl, -, -⟩ := own_slice hL.oi
    obtain ⟨B2, d2, rfl, -, -⟩ := own_slice hL.om
    have HLen' := hid hL.len
    clear hL hfi hwf hk
    have Hsame := fun W (hA : (clsOf r (.slice A1 r.ifs.length c1) (.slice A2 r.ms.length c2) cs).fit W) (hB : (clsOf r (.slice B1 r.ifs.length d1) (.slice B2 r.ms.length d2) cs').fit W) => hid (sameCls_any _ _ W hA hB (by rw [rd_clsOf _ _ _ _ HLen.out, rd_clsOf _ _ _ _ HLen'.out]))
    rw [Hval.out, Hval3.out] at Hsame
    have HB3 := hid ((hU.blk HB2.out (by simp)).alloc (.cells #[.string (bs r.nm), .string (bs r.sup), .slice B1 r.ifs.length d1, .int .i64 r.fl, .int .i64 r.ld, .slice B2 r.ms.length d2] 25))
    have HC3 := hid (Blk.new w3 25 #[.string (bs r.nm), .string (bs r.sup), .slice B1 r.ifs.length d1, .int .i64 r.fl, .int .i64 r.ld, .slice B2 r.ms.length d2])
    have HU3 := hid ((HU2.out.trans hU).alloc (.cells #[.string (bs r.nm), .string (bs r.sup), .slice B1 r.ifs.length d1, .int .i64 r.fl, .int .i64 r.ld, .slice B2 r.ms.length d2] 25))
    have HF2 := hid (HF2.out.upd (hU.alloc (.cells #[.string (bs r.nm), .string (bs r.sup), .slice B1 r.ifs.length d1, .int .i64 r.fl, .int .i64 r.ld, .slice B2 r.ms.length d2] 25)))
    have HF3 := hid (HF3.out.upd ((Upd.refl w3 []).alloc (.cells #[.string (bs r.nm), .string (bs r.sup), .slice B1 r.ifs.length d1, .int .i64 r.fl, .int .i64 r.ld, .slice B2 r.ms.length d2] 25)))
    have hz3 : w2.heap.size < w3.heap.size := (hU.blk HB2.out (by simp)).lt
    clear hU HU2 HB2 Hpd hO
    have x0 := (HB3.out.cell 0).trans (show _ = some (.string (bs r.nm)) from rfl)
    have x1 := (HB3.out.cell 1).trans (show _ = some (.string (bs r.sup)) from rfl)
    have x2 := (HB3.out.cell 2).trans (show _ = some (.slice A1 r.ifs.length c1) from rfl)
    have x3 := (HB3.out.cell 3).trans (show _ = some (.int .i64 r.fl) from rfl)
    have x4 := (HB3.out.cell 4).trans (show _ = some (.int .i64 r.ld) from rfl)
    have x5 := (HB3.out.cell 5).trans (show _ = some (.slice A2 r.ms.length c2) from rfl)
    have y0 := (HC3.out.cell 0).trans (show _ = some (.string (bs r.nm)) from rfl)
    have y1 := (HC3.out.cell 1).trans (show _ = some (.string (bs r.sup)) from rfl)
    have y2 := (HC3.out.cell 2).trans (show _ = some (.slice B1 r.ifs.length d1) from rfl)
    have y3 := (HC3.out.cell 3).trans (show _ = some (.int .i64 r.fl) from rfl)
    have y4 := (HC3.out.cell 4).trans (show _ = some (.int .i64 r.ld) from rfl)
    have y5 := (HC3.out.cell 5).trans (show _ = some (.slice B2 r.ms.length d2) from rfl)
    go_wp2_with fail
    refine (Hsame _ HF2.out HF3.out).out.mono ?_
    rintro e w4 ⟨rfl, hU⟩
    have HU4 := hid (HU3.out.trans hU)
    clear hU
    go_wp2
    go_ret
    exact ⟨rfl, HU4.out⟩
  | inr x =>
    obtain ⟨n, e0⟩ := x
    rw [hO] at hp
    simp only [zeroCls] at hp
    obtain ⟨hp, hU⟩ := hp
    subst hp
    have HF2 := hid (zeroL_fit w2)
    have HU2 := hid ((HU1.out.trans hU).alloc (.cells #[.string ⟨#[]⟩, .string ⟨#[]⟩, .slice none 0 0, .int .i64 0, .int .i64 0, .slice none 0 0] 25))
    have HB2 := hid (Blk.new w2 25 #[.string ⟨#[]⟩, .string ⟨#[]⟩, .slice none 0 0, .int .i64 0, .int .i64 0, .slice none 0 0])
    have HF2 := hid (HF2.out.upd ((Upd.refl w2 []).alloc (.cells #[.string ⟨#[]⟩, .string ⟨#[]⟩, .slice none 0 0, .int .i64 0, .int .i64 0, .slice none 0 0] 25)))
    clear hU
    have hz2 : (w2.alloc (.cells #[.string ⟨#[]⟩, .string ⟨#[]⟩, .slice none 0 0, .int .i64 0, .int .i64 0, .slice none 0 0] 25)).heap.size = w2.heap.size + 1 := by simp
    go_wp2_with fail
    refine (Hpd _).out.mono ?_
    intro e w3 hp
    unfold textPost at hp
    rw [hO] at hp
    obtain ⟨hp, hU⟩ := hp
    simp only [zeroCls] at hp
    subst hp
    have HF3 := hid (zeroL_fit w3)
    have Hsame := fun W (hA : zeroL.fit W) (hB : zeroL.fit W) => hid (sameCls_any zeroL zeroL W hA hB rfl)
    rw [zeroL_v] at Hsame
    have HB3 := hid ((hU.blk HB2.out (by simp)).alloc (.cells #[.string ⟨#[]⟩, .string ⟨#[]⟩, .slice none 0 0, .int .i64 0, .int .i64 0, .slice none 0 0] 25))
    have HC3 := hid (Blk.new w3 25 #[.string ⟨#[]⟩, .string ⟨#[]⟩, .slice none 0 0, .int .i64 0, .int .i64 0, .slice none 0 0])
    have HU3 := hid ((HU2.out.trans hU).alloc (.cells #[.string ⟨#[]⟩, .string ⟨#[]⟩, .slice none 0 0, .int .i64 0, .int .i64 0, .slice none 0 0] 25))
    have HF2 := hid (HF2.out.upd (hU.alloc (.cells #[.string ⟨#[]⟩, .string ⟨#[]⟩, .slice none 0 0, .int .i64 0, .int .i64 0, .slice none 0 0] 25)))
    have HF3 := hid (HF3.out.upd ((Upd.refl w3 []).alloc (.cells #[.string ⟨#[]⟩, .string ⟨#[]⟩, .slice none 0 0, .int .i64 0, .int .i64 0, .slice none 0 0] 25)))
    have hz3 : w2.heap.size < w3.heap.size := (hU.blk HB2.out (by simp)).lt
    clear hU HU2 HB2 Hpd hO
    have x0 := (HB3.out.cell 0).trans (show _ = some (.string ⟨#[]⟩) from rfl)
    have x1 := (HB3.out.cell 1).trans (show _ = some (.string ⟨#[]⟩) from rfl)
    have x2 := (HB3.out.cell 2).trans (show _ = some (.slice none 0 0) from rfl)
    have x3 := (HB3.out.cell 3).trans (show _ = some (.int .i64 0) from rfl)
    have x4 := (HB3.out.cell 4).trans (show _ = some (.int .i64 0) from rfl)
    have x5 := (HB3.out.cell 5).trans (show _ = some (.slice none 0 0) from rfl)
    have y0 := (HC3.out.cell 0).trans (show _ = some (.string ⟨#[]⟩) from rfl)
    have y1 := (HC3.out.cell 1).trans (show _ = some (.string ⟨#[]⟩) from rfl)
    have y2 := (HC3.out.cell 2).trans (show _ = some (.slice none 0 0) from rfl)
    have y3 := (HC3.out.cell 3).trans (show _ = some (.int .i64 0) from rfl)
    have y4 := (HC3.out.cell 4).trans (show _ = some (.int .i64 0) from rfl)
    have y5 := (HC3.out.cell 5).trans (show _ = some (.slice none 0 0) from rfl)
    go_wp2_with fail
    refine (Hsame _ HF2.out HF3.out).out.mono ?_
    rintro e w4 ⟨rfl, hU⟩
    have HU4 := hid (HU3.out.trans hU)
    clear hU
    go_wp2
    go_ret
    exact ⟨rfl, HU4.out⟩
end Go.Proofs.YtjjdlgjofjfgmaaGreatDoor
/-
  What a row asks that lays the library's handle of the type error.
-/
set_option linter.unusedSimpArgs false
set_option linter.unusedVariables false
namespace Go.Proofs.YtjjdlgjofjfgmaaGreatDoor
open Go.ChangeShapes Go.WideShapes Go.RowKit

theorem h_et : Tryz.prog.globalNamed "errors.errorType" = some 0 := by kernel_rfl
theorem h_rt : (Tryz.prog.cutTypes.find? (·.1 == "internal/reflectlite.rtype")).map (·.2) = some 194 := by kernel_rfl
theorem h_row : ((List.range Tryz.prog.types.size).filter fun t => Tryz.prog.rowNamed t [101, 114, 114, 111, 114]) = [71] := by kernel_rfl
theorem h_in : (Rows.laid_errors_errorType (H := Unit)).funcsIn? = none := by kernel_rfl
theorem h_name : (Rows.laid_errors_errorType (H := Unit)).handleName? = some [101, 114, 114, 111, 114] := by kernel_rfl
theorem handle_of {W : World} {l : List (String × DataW Unit)} (hmem : ("errors.errorType", Rows.laid_errors_errorType) ∈ l) (h : laidMetH Tryz.prog l W) : HandleAt W := by
  have h2 := (laidMetH_iff.1 h).2 _ (List.mem_filter.2 ⟨hmem, by rw [h_name]; rfl⟩)
  simp only [h_in] at h2
  obtain ⟨name, u, ty, e1, e2, e3, e4, e5⟩ := h2
  have en : name = [101, 114, 114, 111, 114] := Option.some.inj (e1.symm.trans h_name)
  subst en
  obtain rfl := Option.some.inj (h_rt.symm.trans e2)
  have hm : ty ∈ (List.range Tryz.prog.types.size).filter fun t => Tryz.prog.rowNamed t [101, 114, 114, 111, 114] := List.mem_filter.2 ⟨List.mem_range.2 e3, e4⟩
  rw [h_row] at hm
  obtain rfl := List.mem_singleton.1 hm
  have hh : typeHandle Tryz.prog 71 = .pointer (some ⟨9, 71, none⟩) := by kernel_rfl
  rw [hh] at e5
  unfold HandleAt
  simpa using World.var?_cell h_et e5 0
end Go.Proofs.YtjjdlgjofjfgmaaGreatDoor
