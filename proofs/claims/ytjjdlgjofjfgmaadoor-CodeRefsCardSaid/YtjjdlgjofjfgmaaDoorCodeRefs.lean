/-
  The law CodeRefs answers true for every reference: the texts and the checks of package code and of the document agree, and a sound reference's text is read back as that reference. Condition: the library's listed tables lie as its text lays them (the card ties them).
-/
import Derived.Test.YtjjdlgjofjfgmaaDoorRowOpen
import Derived.Test.YtjjdlgjofjfgmaaDoorRefsC
import Derived.Test.YtjjdlgjofjfgmaaDoorTie
import Derived.Test.YtjjdlgjofjfgmaaDoorCards
import Derived.SevenTiedAt
set_option linter.unusedSimpArgs false
set_option linter.unusedVariables false
namespace Go.Proofs.YtjjdlgjofjfgmaaDoor.codeRefs
open Go.ChangeShapes Go.WideShapes Go.ChangeAt Go.RowKit

set_option maxRecDepth 100000 in
theorem lifted (os : Os) (started : os.Started) (H : Type) (enc : TypeId × Value → H) :
    ReturnsInHanded {} Tryd.checked os 6 .any (fun w args => (Rows.codeRefsSpec.pre enc Tryd.prog Tryd.f6 [] false w args ∧ laidMetH Tryd.prog Rows.codeRefsRow.laid w) ∧ sizedMet enc Tryd.prog Tryd.f6 (OpenSpec.ofChange Rows.codeRefsSpec) false w args)
      (Rows.codeRefsSpec.post enc Tryd.prog Tryd.f6 false true false false) := by
  refine returnsInHanded_shaped_and (C := Tryd.checked) (X := fun w _ => laidMetH Tryd.prog Rows.codeRefsRow.laid w) (fun _ _ _ hh h => h.of_heap hh) Tryd_own started (by kernel_rfl) Tryd.func6
    (ChangeSpec.witness_shaped (enc := enc) (C := Tryd.checked) (os := os) (X := fun w _ => laidMetH Tryd.prog Rows.codeRefsRow.laid w) false (laidWorld os) #[noRefL.v] 8 rfl (laidWorld_shaped os _) (by kernel_rfl) (by kernel_rfl) (by kernel_rfl) (laidWorld_met os _)) ?_
  intro W base args ds gs before hval0 hW _ _ hL hsh _
  have hval : ∀ (j : Nat) t v, Tryd.f6.params[j]? = some t → args[j]? = some v → Value.okWide Tryd.prog W .any base t v := hval0
  have hlt : ∀ p ∈ before, p.block < W.heap.size := fun p hp => hW.lt p hp
  have hW' := hW
  obtain ⟨p, q, hA0, hV, rfl, hfz, hnd⟩ := hW
  have hA : DataW.TrodAll enc Tryd.prog W 0 (fun _ => true) true Tryd.f6.params.toList args.toList ds p := hA0
  rw [Tryd.params6] at hA hval
  obtain ⟨v0, vs0, d0, ds0, p0, q0, hargs, rfl, rfl, h0, r0⟩ := trodAll_cons hA
  obtain ⟨rfl, rfl, rfl⟩ := trodAll_nil r0
  obtain rfl : args = #[v0] := by cases args; simp_all
  obtain ⟨rfl, rfl⟩ := trodVars_none hV
  have h0k := h0
  have hv0 := hval 0 23 v0 rfl rfl
  obtain ⟨cs0, rfl, -, -⟩ : ∃ cs, v0 = .agg cs ∧ cs.size = Tryd.prog.cellsOf 23 ∧ Row.okWide Tryd.prog W .any base 23 cs := by
    unfold Value.okWide at hv0
    rw [Tryd.underlying23] at hv0
    exact hv0
  obtain ⟨fuel, hf⟩ := h0
  obtain ⟨i, hi, hfit⟩ := ref_of_trod (cs := cs0.toList) hf
  obtain rfl : cs0 = #[.bool i.ifc, .string (bs i.cls), .string (bs i.nm), .string (bs i.ds)] := by apply Array.ext'; exact hi
  have hm := rdy_of (by kernel_rfl) (by simp [Rows.codeRefsRow]) hL hsh
  clear hA0 hval0
  simp only [List.append_nil] at hW' hlt
  refine (codeRefs_walk i W hfit hm).mono fun e W' ⟨he, hg0⟩ => ?_
  have hg := hg0.below
  subst he
  exact ⟨_, rfl, post_of_below (pa := p0) (pv := []) hW' (fun _ _ _ => (trodAll_cons_mk (shut_bool Tryd.underlying4 _) trodAll_mk0))
    (fun sp hsp => trodAll_mk1 (WideElems.Trod_stays Tryd_laidOut (by kernel_rfl) (of_decide_eq_true (by kernel_rfl)) h0k (fun x hx => hg.same (hlt x hx)) (fun x hx => hsp x hx))) (fun _ _ => rfl) (by simp)
    hg (ok_one (by kernel_rfl) rfl (okWide_bool_mk Tryd.underlying4 _))⟩

theorem over : Rows.CodeRefsSaid :=
  OpenClaim.holds_of_wide 6 Tryd.f6 rfl rfl rfl rfl rfl rfl rfl ⟨rfl, rfl, rfl, rfl, rfl⟩ rfl rfl rfl rfl rfl (by kernel_rfl) Tryd.func6 (by kernel_rfl)
    (of_decide_eq_true (by kernel_rfl)) (by unfold Func.isWrapper; first | (rw [if_pos (by decide +kernel)]; kernel_rfl) | (rw [if_neg (by decide +kernel)]; exact ⟨rfl, rfl⟩))
    (fun os started H enc _ => lifted os started H enc)

theorem proved : Rows.CodeRefsCardSaid :=
  Claim7.holds_tied_plain_at .later [] [.data, .data, .data, .data, .pinned] true (true, "847be99cdbca3235d4d3f3ded660163c6f208adde1ae332042bec2e7d7c6d9cf") true
    over (fun _ h => by cases h) (by kernel_rfl) (fun _ h => by cases h) codeRefs_row_tie rfl ⟨rfl, rfl⟩ (by kernel_rfl) rfl
    (fun f fn hf hfn => by
      obtain rfl : f = 6 := Option.some.inj ((show Tryd.prog.funcNamed "arbiter/arbiterlaw04.CodeRefs" = some 6 by kernel_rfl).symm.trans hf) |>.symm
      obtain rfl : fn = Tryd.f6 := (Option.some.inj (Tryd.func6.symm.trans hfn)).symm
      exact ⟨by kernel_rfl, fun j t ht => by
        rw [Tryd.params6] at ht
        have hm : t ∈ [23] := by simpa using Array.mem_of_getElem? ht
        have hall : ([23].all fun u => !Tryd.prog.wantsStandIn u) = true := by kernel_rfl
        exact (show Tryd.prog.wantsStandIn t = false by simpa using List.all_eq_true.1 hall t hm)⟩)
    (by kernel_rfl)
#print axioms proved
end Go.Proofs.YtjjdlgjofjfgmaaDoor.codeRefs
