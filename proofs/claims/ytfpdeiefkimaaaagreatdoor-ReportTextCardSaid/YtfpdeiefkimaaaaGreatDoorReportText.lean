/-
  The law ReportText answers true for every two texts: a text that Load takes is written again as it was, and the worlds of two such texts are the same just if the texts are; a text that it does not take leaves a line and no world. Condition: the library's listed variables lie as its text lays them (the card ties them).
-/
import Derived.Test.YtfpdeiefkimaaaaGreatDoorKC
import Derived.Test.YtfpdeiefkimaaaaGreatDoorKR
import Derived.Test.YtfpdeiefkimaaaaGreatDoorRD
import Derived.Test.YtfpdeiefkimaaaaGreatDoorTie
import Derived.Test.YtfpdeiefkimaaaaGreatDoorCards
import Derived.SevenTiedAt
set_option linter.unusedSimpArgs false
set_option linter.unusedVariables false
namespace Go.Proofs.YtfpdeiefkimaaaaGreatDoor.reportText
open Go.ChangeShapes Go.WideShapes Go.ChangeAt Go.RowKit

set_option maxRecDepth 100000 in
theorem open_str {H : Type} {enc : TypeId × Value → H} {W : World} {base : Nat} {v : Value} {d : DataW H} {p : List MemPlace} (hv : Value.okWide Tryz.prog W .any base 9 v)
    (h : DataW.Trod enc Tryz.prog W 0 (fun _ => true) true 9 v d p) : ∃ l : List UInt8, v = .string (bs l) ∧ d = .lit (.string l) := by
  obtain ⟨s, rfl⟩ := okWide_string Tryz.underlying9 hv
  obtain ⟨fuel, hf⟩ := h
  obtain ⟨b, hb, hx, hb2⟩ := DataW.trod_string Tryz.underlying9 hf
  simp only [Prod.mk.injEq] at hx
  simp [Value.cells] at hb
  exact ⟨b.data.toList, by rw [hb]; exact (str_bs b hb2).1, hx.1⟩

theorem laid_met (os : Os) (args : Array Value) : laidMetH Tryz.prog Rows.reportTextRow.laid ((laidWorld os).forCall (fun _ _ => 0) ⟨#[], args, []⟩).memory :=
  laidMetH_of_parts (laidMet_of_run' 8 (by kernel_rfl) (by kernel_rfl)) (by kernel_rfl)

set_option maxRecDepth 100000 in
theorem lifted (os : Os) (started : os.Started) (H : Type) (enc : TypeId × Value → H) :
    ReturnsInHanded {} Tryz.checked os 4 .any (fun w args => (Rows.reportTextSpec.pre enc Tryz.prog Tryz.f4 [] false w args ∧ laidMetH Tryz.prog Rows.reportTextRow.laid w) ∧ sizedMet enc Tryz.prog Tryz.f4 (OpenSpec.ofChange Rows.reportTextSpec) false w args)
      (Rows.reportTextSpec.post enc Tryz.prog Tryz.f4 false true false false) := by
  refine returnsInHanded_shaped_and (C := Tryz.checked) (X := fun w _ => laidMetH Tryz.prog Rows.reportTextRow.laid w) (fun _ _ _ hh h => h.of_heap hh) Tryz_own started (by kernel_rfl) Tryz.func4
    (ChangeSpec.witness_shaped (enc := enc) (C := Tryz.checked) (os := os) (X := fun w _ => laidMetH Tryz.prog Rows.reportTextRow.laid w) false (laidWorld os) #[.string ⟨#[]⟩, .string ⟨#[]⟩] 8 rfl (laidWorld_shaped os _) (by kernel_rfl) (by kernel_rfl) (by kernel_rfl) (laid_met os _)) ?_
  intro W base args ds gs before hval0 hW _ hsz0 hL hsh _
  have hval : ∀ (j : Nat) t v, Tryz.f4.params[j]? = some t → args[j]? = some v → Value.okWide Tryz.prog W .any base t v := hval0
  have hlt : ∀ p ∈ before, p.block < W.heap.size := fun p hp => hW.lt p hp
  have hW' := hW
  obtain ⟨p, q, hA0, hV, rfl, hfz, hnd⟩ := hW
  have hA : DataW.TrodAll enc Tryz.prog W 0 (fun _ => true) true Tryz.f4.params.toList args.toList ds p := hA0
  have hsz : (DataW.weightsEach Tryz.prog (Tryz.f4.params.toList ++ Rows.reportTextSpec.plain.varTypes Tryz.prog) (ds ++ gs)).all (· ≤ reachBytes) = true := hsz0
  rw [Tryz.params4] at hA hval hsz
  obtain ⟨v0, vs0, d0, ds0, p0, q0, hargs, rfl, rfl, h0, r0⟩ := trodAll_cons hA
  obtain ⟨v1, vs1, d1, ds1, p1, q1, rfl, rfl, rfl, h1, r1⟩ := trodAll_cons r0
  obtain ⟨rfl, rfl, rfl⟩ := trodAll_nil r1
  obtain rfl : args = #[v0, v1] := by cases args; simp_all
  obtain ⟨rfl, rfl⟩ := trodVars_none hV
  have h0k := h0
  have h1k := h1
  have hz0 : ∀ n, n ∈ d0.weights Tryz.prog 9 → n ≤ reachBytes := Small.of_all hsz (j := 0) rfl rfl
  obtain ⟨l0, rfl, rfl⟩ := open_str (hval 0 9 v0 rfl rfl) h0
  have hl0 : l0.length ≤ 140737488351232 := hz0 _ (by simp [DataW.weights])
  have hz1 : ∀ n, n ∈ d1.weights Tryz.prog 9 → n ≤ reachBytes := Small.of_all hsz (j := 1) rfl rfl
  obtain ⟨l1, rfl, rfl⟩ := open_str (hval 1 9 v1 rfl rfl) h1
  have hl1 : l1.length ≤ 140737488351232 := hz1 _ (by simp [DataW.weights])
  have hLf := hL.filter (fun x => x.1 != "errors.errorType")
  have hm := rdy_of (by kernel_rfl) (List.mem_filter.2 ⟨by simp [Rows.reportTextRow], by decide⟩) hLf hsh
  have he := errs_of (by kernel_rfl) (List.mem_filter.2 ⟨by simp [Rows.reportTextRow], by decide⟩) (List.mem_filter.2 ⟨by simp [Rows.reportTextRow], by decide⟩) hLf
  have hgd := handle_of (l := Rows.reportTextRow.laid) (by simp [Rows.reportTextRow]) hL
  clear hLf
  clear hA0 hval0
  simp only [List.append_nil] at hW' hlt
  refine (reportText_walk l0 l1 W (by omega) (by omega) ⟨hm, he, hgd⟩).mono fun e W' ⟨he, hg0⟩ => ?_
  have hg := hg0.below
  subst he
  exact ⟨_, rfl, post_of_below (pa := p0 ++ (p1)) (pv := []) hW' (fun _ _ _ => (trodAll_cons_mk (shut_bool Tryz.underlying4 _) trodAll_mk0))
    (fun sp hsp => trodAll_cons_mk (WideElems.Trod_stays Tryz_laidOut (by kernel_rfl) (of_decide_eq_true (by kernel_rfl)) h0k (fun x hx => hg.same (hlt x (by simp [hx]))) (fun x hx => hsp x (by simp [hx]))) (trodAll_mk1 (WideElems.Trod_stays Tryz_laidOut (by kernel_rfl) (of_decide_eq_true (by kernel_rfl)) h1k (fun x hx => hg.same (hlt x (by simp [hx]))) (fun x hx => hsp x (by simp [hx]))))) (fun _ _ => rfl) (by simp)
    hg (ok_one (by kernel_rfl) rfl (okWide_bool_mk Tryz.underlying4 _))⟩

theorem over : Rows.ReportTextSaid :=
  OpenClaim.holds_of_wide 4 Tryz.f4 rfl rfl rfl rfl rfl rfl rfl ⟨rfl, rfl, rfl, rfl, rfl⟩ rfl rfl rfl rfl rfl (by kernel_rfl) Tryz.func4 (by kernel_rfl)
    (of_decide_eq_true (by kernel_rfl)) (by unfold Func.isWrapper; first | (rw [if_pos (by decide +kernel)]; kernel_rfl) | (rw [if_neg (by decide +kernel)]; exact ⟨rfl, rfl⟩))
    (fun os started H enc _ => lifted os started H enc)

theorem proved : Rows.ReportTextCardSaid :=
  Claim7.holds_tied_plain_at .later [] [.data, .data, .data, .data, .handle, .sentinel, .sentinel, .pinned] true (true, "bdaa556598574f4e9d56c8e98c8947ec32c025a9da58f8bd866d738827ced3cf") true
    over (fun _ h => by cases h) (by kernel_rfl) (fun _ h => by cases h) reportText_row_tie rfl ⟨rfl, rfl⟩ (by kernel_rfl) rfl
    (fun f fn hf hfn => by
      obtain rfl : f = 4 := Option.some.inj ((show Tryz.prog.funcNamed "arbiter/arbiterlaw25.ReportText" = some 4 by kernel_rfl).symm.trans hf) |>.symm
      obtain rfl : fn = Tryz.f4 := (Option.some.inj (Tryz.func4.symm.trans hfn)).symm
      exact ⟨by kernel_rfl, fun j t ht => by
        rw [Tryz.params4] at ht
        have hm : t ∈ [9, 9] := by simpa using Array.mem_of_getElem? ht
        have hall : ([9, 9].all fun u => !Tryz.prog.wantsStandIn u) = true := by kernel_rfl
        exact (show Tryz.prog.wantsStandIn t = false by simpa using List.all_eq_true.1 hall t hm)⟩)
    (by kernel_rfl)
#print axioms proved
end Go.Proofs.YtfpdeiefkimaaaaGreatDoor.reportText
