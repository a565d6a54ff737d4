/-
  What a row asks whose law is stated up to a size, over a tied card: a claim out of a contract; a witness; the library's errors.
-/
import Derived.JoinedCond
import Derived.LaidHandle
import Derived.LaidSub
import Derived.Test.YtfpdeiefkimaaaaGreatDoorDocP
import Derived.Test.YtfpdeiefkimaaaaGreatDoorKC
import Derived.Test.YtfpdeiefkimaaaaGreatDoorKD
import Derived.Test.YtfpdeiefkimaaaaGreatDoorKG
import Derived.Test.YtfpdeiefkimaaaaGreatDoorKQ
set_option linter.unusedSimpArgs false
set_option linter.unusedVariables false
namespace Go.Proofs.YtfpdeiefkimaaaaGreatDoor
open Go.ChangeShapes Go.WideShapes Go.ChangeAt Go.RowKit
section
variable {H : Type} {enc : TypeId × Value → H}
theorem iface_of_trod {P : Program} {W : World} {base : Nat} {sp : Nat → Bool} {hd : Bool} {fuel : Nat} {t : TypeId} {cs : List Value} {x} {ms : Array (String × TypeId)} (ht : P.underlying t = some (.interface ms)) (h : DataW.trod enc P W base sp hd fuel t cs = some x) :
    ∃ ev, cs = [ev] ∧ (ev = .nilIface ∨ ∃ te pe, ev = .iface te pe) := by
  cases fuel with
  | zero => simp [DataW.trod] at h
  | succ n =>
    unfold DataW.trod at h
    rw [ht] at h
    simp only at h

    split at h <;> first | exact ⟨_, rfl, .inl rfl⟩ | exact ⟨_, rfl, .inr ⟨_, _, rfl⟩⟩ | (rename_i heq; cases heq; done) | (rename_i heq _; cases heq; done) | (exfalso; simp_all; done) | (exfalso; rename_i heq; nomatch heq)
end

theorem iface_of_laid {W : World} {l : List (String × DataW Unit)} {ps : List MemPlace} {nm : String} {d : DataW Unit} {g t : Nat} {ms : Array (String × TypeId)} (hl : DataW.LaidVars Tryz.prog W l ps) (hmem : (nm, d) ∈ l)
    (g1 : Tryz.prog.globalNamed nm = some g) (g2 : (Tryz.prog.globals[g]?).map (·.type) = some t) (hu : Tryz.prog.underlying t = some (.interface ms)) :
    ∃ ev, W.cell? ⟨g, 0, none⟩ = some ev ∧ (ev = .nilIface ∨ ∃ te pe, ev = .iface te pe) := by
  obtain ⟨g', t', cs, fuel, p, h1, h2, h3, h4⟩ := laid_mem hl hmem
  obtain rfl := Option.some.inj (g1.symm.trans h1)
  obtain rfl := Option.some.inj (g2.symm.trans h2)
  obtain ⟨ev, he, hc⟩ := iface_of_trod hu h4
  refine ⟨ev, ?_, hc⟩
  unfold World.var? at h3
  rw [g1] at h3
  simp only [Option.bind_some] at h3
  split at h3
  · rename_i cs' t2 fr hh
    cases h3
    have hs : cs[0]? = some ev := by
      rw [← Array.getElem?_toList, he]
      rfl
    simp [World.cell?, hh, hs]
  · simp at h3

theorem errs_of {W : World} {l : List (String × DataW Unit)} (hp : (l.all fun x => x.2.handleName?.isNone) = true) (hm1 : ("strconv.ErrRange", Rows.laid_strconv_ErrRange) ∈ l) (hm2 : ("strconv.ErrSyntax", Rows.laid_strconv_ErrSyntax) ∈ l) (h : laidMetH Tryz.prog l W) : ErrsAt W := by
  obtain ⟨ms, hu⟩ : ∃ ms, Tryz.prog.underlying 59 = some (.interface ms) := by
    have h : (match Tryz.prog.underlying 59 with | some (.interface _) => true | _ => false) = true := by kernel_rfl
    revert h
    generalize Tryz.prog.underlying 59 = u
    intro h
    match u, h with
    | some (.interface f), _ => exact ⟨f, rfl⟩
  rw [MakeChecks.laidMetH_plain _ _ _ hp] at h
  obtain ⟨ps, hl, _⟩ := h
  exact ⟨iface_of_laid hl hm1 (by kernel_rfl) (by kernel_rfl) hu, iface_of_laid hl hm2 (by kernel_rfl) (by kernel_rfl) hu⟩
end Go.Proofs.YtfpdeiefkimaaaaGreatDoor
/-
  The law ShapesParse, walked. (Printed by gen_lawParse.py.)
-/
set_option linter.unusedSimpArgs false
set_option linter.unusedVariables false
namespace Go.Proofs.YtfpdeiefkimaaaaGreatDoor
open Go.RowKit Go.Sort

theorem rd_zip : ∀ (ms : List MethS) (cs : List Value), ms.length = cs.length → (List.zipWith methOf ms cs).map methSOf = ms
  | [], [], _ => rfl
  | m :: t, c :: s, h => by
    have ih := rd_zip t s (by simpa using h)
    show methSOf (methOf m c) :: (List.zipWith methOf t s).map methSOf = m :: t
    rw [ih]
    rfl
  | [], c :: s, h => by simp at h
  | m :: t, [], h => by simp at h
theorem rd_clsOf (r : RdS) (vi vm : Value) (cs : List Value) (h : r.ms.length = cs.length) : rdOf (clsOf r vi vm cs) = { r with st := 8 } := by
  show RdS.mk r.nm r.sup r.ifs r.fl r.ld ((List.zipWith methOf r.ms cs).map methSOf) 8 = _
  rw [rd_zip r.ms cs h]
def zeroL : ClassL := ⟨[], [], none, 0, [], 0, 0, none, 0, []⟩
/-- The handle that the library keeps in its first variable. -/
def HandleAt (w : World) : Prop := w.cell? ⟨0, 0, none⟩ = some (.iface 205 (.agg #[.pointer (some ⟨9, 59, none⟩)]))
theorem HandleAt.upd {w w' : World} (h : HandleAt w) (u : Upd w w' []) : HandleAt w' := by
  unfold HandleAt at h ⊢
  rw [u.cells.1 0 0 (World.block_lt_of_cell? w _ h)]
  exact h

end Go.Proofs.YtfpdeiefkimaaaaGreatDoor
/-
  What a row asks that lays the library's handle of the type error.
-/
set_option linter.unusedSimpArgs false
set_option linter.unusedVariables false
namespace Go.Proofs.YtfpdeiefkimaaaaGreatDoor
open Go.ChangeShapes Go.WideShapes Go.RowKit

theorem h_et : Tryz.prog.globalNamed "errors.errorType" = some 0 := by kernel_rfl
theorem h_rt : (Tryz.prog.cutTypes.find? (·.1 == "internal/reflectlite.rtype")).map (·.2) = some 205 := by kernel_rfl
theorem h_row : ((List.range Tryz.prog.types.size).filter fun t => Tryz.prog.rowNamed t [101, 114, 114, 111, 114]) = [59] := by kernel_rfl
theorem h_in : (Rows.laid_errors_errorType (H := Unit)).funcsIn? = none := by kernel_rfl
theorem h_name : (Rows.laid_errors_errorType (H := Unit)).handleName? = some [101, 114, 114, 111, 114] := by kernel_rfl
theorem handle_of {W : World} {l : List (String × DataW Unit)} (hmem : ("errors.errorType", Rows.laid_errors_errorType) ∈ l) (h : laidMetH Tryz.prog l W) : HandleAt W := by
  have h2 := (laidMetH_iff.1 h).2 _ (List.mem_filter.2 ⟨hmem, by rw [h_name]; rfl⟩)
  simp only [h_in] at h2
  obtain ⟨name, u, ty, e1, e2, e3, e4, e5⟩ := h2
  have en : name = [101, 114, 114, 111, 114] := Option.some.inj (e1.symm.trans h_name)
  subst en
  obtain rfl := Option.some.inj (h_rt.symm.trans e2)
  have hm : ty ∈ (List.range Tryz.prog.types.size).filter fun t => Tryz.prog.rowNamed t [101, 114, 114, 111, 114] := List.mem_filter.2 ⟨List.mem_range.2 e3, e4⟩
  rw [h_row] at hm
  obtain rfl := List.mem_singleton.1 hm
  have hh : typeHandle Tryz.prog 59 = .pointer (some ⟨9, 59, none⟩) := by kernel_rfl
  rw [hh] at e5
  unfold HandleAt
  simpa using World.var?_cell h_et e5 0
end Go.Proofs.YtfpdeiefkimaaaaGreatDoor
