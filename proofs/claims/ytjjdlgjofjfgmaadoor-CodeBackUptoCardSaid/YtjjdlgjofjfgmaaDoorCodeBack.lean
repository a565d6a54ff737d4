/-
  The law CodeBack answers true for every instruction and every line up to the card's size: what Print writes is read again as it, and what Parse reads is a sound instruction whose text is the line. Condition: the library's listed variables lie as its text lays them (the card ties them); what came in is of bulk at most 1048576.
-/
import Derived.Test.YtjjdlgjofjfgmaaDoorBackA
import Derived.Test.YtjjdlgjofjfgmaaDoorBackB
import Derived.Test.YtjjdlgjofjfgmaaDoorTie
import Derived.Test.YtjjdlgjofjfgmaaDoorCards
import Derived.SevenTiedAt
set_option linter.unusedSimpArgs false
set_option linter.unusedVariables false
namespace Go.Proofs.YtjjdlgjofjfgmaaDoor.codeBack
open Go.ChangeShapes Go.WideShapes Go.ChangeAt Go.RowKit

set_option maxRecDepth 100000 in
theorem open_str {H : Type} {enc : TypeId × Value → H} {W : World} {base : Nat} {v : Value} {d : DataW H} {p : List MemPlace} (hv : Value.okWide Tryd.prog W .any base 9 v)
    (h : DataW.Trod enc Tryd.prog W 0 (fun _ => true) true 9 v d p) : ∃ l : List UInt8, v = .string (bs l) ∧ d = .lit (.string l) := by
  obtain ⟨s, rfl⟩ := okWide_string Tryd.underlying9 hv
  obtain ⟨fuel, hf⟩ := h
  obtain ⟨b, hb, hx, hb2⟩ := DataW.trod_string Tryd.underlying9 hf
  simp only [Prod.mk.injEq] at hx
  simp [Value.cells] at hb
  exact ⟨b.data.toList, by rw [hb]; exact (str_bs b hb2).1, hx.1⟩

theorem laid_met (os : Os) (args : Array Value) : laidMetH Tryd.prog Rows.codeBackUptoRow.laid ((laidWorld os).forCall (fun _ _ => 0) ⟨#[], args, []⟩).memory :=
  laidMetH_of_parts (laidMet_of_run' 8 (by kernel_rfl) (by kernel_rfl)) (by kernel_rfl)

set_option maxRecDepth 100000 in
theorem lifted (os : Os) (started : os.Started) (H : Type) (enc : TypeId × Value → H) (F : Stop.Interp) :
    ReturnsInHanded {} Tryd.checked os 8 .any (fun w args => ((Rows.OpenSpec.upto Rows.codeBackSpec).pre enc Tryd.prog Tryd.f8 [] false w args ∧ laidMetH Tryd.prog Rows.codeBackUptoRow.laid w) ∧ sizedMet enc Tryd.prog Tryd.f8 (Rows.OpenSpec.upto Rows.codeBackSpec) false w args)
      (((Rows.OpenSpec.upto Rows.codeBackSpec).at F).post enc Tryd.prog Tryd.f8 false true false false) := by
  refine returnsInHanded_cond_and (C := Tryd.checked) (s := Rows.OpenSpec.upto Rows.codeBackSpec) (k := Rows.uptoSmall) rfl (X := fun w _ => laidMetH Tryd.prog Rows.codeBackUptoRow.laid w) (fun _ _ _ hh h => h.of_heap hh) Tryd_own started (by kernel_rfl) Tryd.func8
    (witness_cond (enc := enc) (C := Tryd.checked) (os := os) (s := Rows.OpenSpec.upto Rows.codeBackSpec) (k := Rows.uptoSmall) rfl (X := fun w _ => laidMetH Tryd.prog Rows.codeBackUptoRow.laid w) false (laidWorld os) #[(InstL.mk 0 0 [] noRefL).v, .string ⟨#[]⟩] 8 rfl (laidWorld_shaped os _) (by kernel_rfl)
      (x := ([.agg [.lit (.int .i64 0), .lit (.int .i64 0), .lit (.string []), .agg [.lit (.bool false), .lit (.string []), .lit (.string []), .lit (.string [])]], .lit (.string [])], [], [])) (by kernel_rfl) (by kernel_rfl) (by kernel_rfl) (by kernel_rfl) (laid_met os _)) ?_
  intro W base args ds gs before hval0 hW hk hL hsh _
  have hval : ∀ (j : Nat) t v, Tryd.f8.params[j]? = some t → args[j]? = some v → Value.okWide Tryd.prog W .any base t v := hval0
  have hlt : ∀ p ∈ before, p.block < W.heap.size := fun p hp => hW.lt p hp
  have hW' := hW
  obtain ⟨p, q, hA0, hV, rfl, hfz, hnd⟩ := hW
  have hA : DataW.TrodAll enc Tryd.prog W 0 (fun _ => true) true Tryd.f8.params.toList args.toList ds p := hA0
  rw [Tryd.params8] at hA hval
  obtain ⟨v0, vs0, d0, ds0, p0, q0, hargs, rfl, rfl, h0, r0⟩ := trodAll_cons hA
  obtain ⟨v1, vs1, d1, ds1, p1, q1, rfl, rfl, rfl, h1, r1⟩ := trodAll_cons r0
  obtain ⟨rfl, rfl, rfl⟩ := trodAll_nil r1
  obtain rfl : args = #[v0, v1] := by cases args; simp_all
  obtain ⟨rfl, rfl⟩ := trodVars_none hV
  have h0k := h0
  have h1k := h1
  obtain ⟨l, rfl, rfl⟩ := open_str (hval 1 9 v1 rfl rfl) h1
  have hl : l.length ≤ 4000000000 := by
    have hk2 : Rows.uptoBulk d0 + (l.length + 1 + 0) ≤ 1048576 := of_decide_eq_true hk
    omega
  have hv0 := hval 0 25 v0 rfl rfl
  obtain ⟨cs0, rfl, -, -⟩ : ∃ cs, v0 = .agg cs ∧ cs.size = Tryd.prog.cellsOf 25 ∧ Row.okWide Tryd.prog W .any base 25 cs := by
    unfold Value.okWide at hv0
    rw [Tryd.underlying25] at hv0
    exact hv0
  obtain ⟨fuel, hf⟩ := h0
  obtain ⟨i, hi, hfit, hnum⟩ := inst_of_trod (cs := cs0.toList) hf
  obtain rfl : cs0 = i.cells := by apply Array.ext'; exact hi
  have hm := rdy_of (by kernel_rfl) (by simp [Rows.codeBackUptoRow]) hL hsh
  have he := errs_of (by kernel_rfl) (by simp [Rows.codeBackUptoRow]) (by simp [Rows.codeBackUptoRow]) hL
  clear hA0 hval0
  simp only [List.append_nil] at hW' hlt
  refine (codeBack_walk i l W hfit hnum (fun h => Nat.le_trans (InstL.text_le h hnum).1 (by omega)) hl hm he).mono fun e W' ⟨he, hg0⟩ => ?_
  have hg := hg0.below
  subst he
  exact ⟨_, rfl, post_of_below (s := (Rows.OpenSpec.upto Rows.codeBackSpec).at F) (pa := p0 ++ p1) (pv := []) hW' (fun _ _ _ => (trodAll_cons_mk (shut_bool Tryd.underlying4 _) trodAll_mk0))
    (fun sp hsp => trodAll_cons_mk (WideElems.Trod_stays Tryd_laidOut (by kernel_rfl) (of_decide_eq_true (by kernel_rfl)) h0k (fun x hx => hg.same (hlt x (by simp [hx]))) (fun x hx => hsp x (by simp [hx]))) (trodAll_mk1 (WideElems.Trod_stays Tryd_laidOut (by kernel_rfl) (of_decide_eq_true (by kernel_rfl)) h1k (fun x hx => hg.same (hlt x (by simp [hx]))) (fun x hx => hsp x (by simp [hx]))))) (fun _ _ => rfl) (by simp)
    hg (ok_one (by kernel_rfl) rfl (okWide_bool_mk Tryd.underlying4 _))⟩

theorem over : Rows.CodeBackUptoSaid :=
  OpenClaim.holds_of_cond 8 Tryd.f8 rfl rfl rfl rfl rfl rfl rfl ⟨rfl, rfl, rfl, rfl, rfl⟩ rfl rfl rfl rfl rfl (by kernel_rfl) Tryd.func8 (by kernel_rfl)
    (of_decide_eq_true (by kernel_rfl)) (by unfold Func.isWrapper; first | (rw [if_pos (by decide +kernel)]; kernel_rfl) | (rw [if_neg (by decide +kernel)]; exact ⟨rfl, rfl⟩))
    (fun os started H enc _ F => lifted os started H enc F)

theorem proved : Rows.CodeBackUptoCardSaid :=
  Claim7.holds_tied_plain_at .later [] [.data, .data, .data, .data, .sentinel, .sentinel, .pinned] true (true, "847be99cdbca3235d4d3f3ded660163c6f208adde1ae332042bec2e7d7c6d9cf") true
    over (fun _ h => by cases h) (by kernel_rfl) (fun _ h => by cases h) codeBackUpto_row_tie rfl ⟨rfl, rfl⟩ (by kernel_rfl) rfl
    (fun f fn hf hfn => by
      obtain rfl : f = 8 := Option.some.inj ((show Tryd.prog.funcNamed "arbiter/arbiterlaw04.CodeBack" = some 8 by kernel_rfl).symm.trans hf) |>.symm
      obtain rfl : fn = Tryd.f8 := (Option.some.inj (Tryd.func8.symm.trans hfn)).symm
      exact ⟨by kernel_rfl, fun j t ht => by
        rw [Tryd.params8] at ht
        have hm : t ∈ [25, 9] := by simpa using Array.mem_of_getElem? ht
        have hall : ([25, 9].all fun u => !Tryd.prog.wantsStandIn u) = true := by kernel_rfl
        exact (show Tryd.prog.wantsStandIn t = false by simpa using List.all_eq_true.1 hall t hm)⟩)
    (by kernel_rfl)
#print axioms proved
end Go.Proofs.YtjjdlgjofjfgmaaDoor.codeBack
