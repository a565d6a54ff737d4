/-
  The rows' last steps: a call that only makes new memory; a start that the program's own variables lie in.
-/
import Derived.Carry
import Derived.ChangeSame
import Derived.Deep.Slices
import Derived.HandedShaped
import Derived.LaidMore
import Derived.Lib.LaidTab
import Derived.MakeChecks
import Derived.OpenShut
import Derived.ProofKit
import Derived.Shelf.Vars
import Derived.SizedLaws
import Derived.Stop.Joined
import Derived.Test.YtfpdeiefkimaaaaGreatDoorRows
import Derived.Test.YtfpdeiefkimaaaaGreatDoorK7
import Derived.Test.YtfpdeiefkimaaaaGreatDoorK8
import Derived.Test.YtfpdeiefkimaaaaGreatDoorK9
set_option linter.unusedSimpArgs false
set_option linter.unusedVariables false
namespace Go.Proofs.YtfpdeiefkimaaaaGreatDoor
open Go.ChangeShapes Go.WideShapes Go.ChangeAt Go.RowKit
section
variable {H : Type} {enc : TypeId × Value → H} {P : Program}
theorem post_of_below {f : Func} {s : ChangeSpec} {apart fresh handsOn again : Bool} {W W' : World} {args : Array Value} {v : Value} {ds gs : List (DataW H)} {before pa pv : List MemPlace}
    (hW : DataW.Whole enc P f.params.toList s.vars apart W args.toList ds gs before)
    (hres : ∀ (b : Nat) (sp : Nat → Bool) (hd : Bool), DataW.TrodAll enc P W' b sp hd f.resultTypes.toList (v.resultList f.resultTypes.size) (s.fn H (ds ++ gs)).results [])
    (hargs : ∀ sp : Nat → Bool, (∀ p ∈ before, sp p.block = true) → DataW.TrodAll enc P W' 0 sp true f.params.toList args.toList (s.fn H (ds ++ gs)).args pa)
    (hvars : ∀ sp : Nat → Bool, (∀ p ∈ before, sp p.block = true) → DataW.TrodVars enc P W' sp s.vars (s.fn H (ds ++ gs)).vars pv)
    (hps : before = pa ++ pv) (hb : Below W.heap.size W W')
    (hok : ∀ (j : Nat) (t : TypeId) (r : Value), f.resultTypes[j]? = some t → (v.resultList f.resultTypes.size)[j]? = some r → Value.okWide P W' .any 0 t r) :
    s.post enc P f apart fresh handsOn again W args v W' := by
  have hlt : ∀ p ∈ before, p.block < W.heap.size := fun p hp => hW.lt p hp
  have hold : ∀ p ∈ before, (fun b => decide (b < W.heap.size)) p.block = true := fun p hp => by simpa using hlt p hp
  refine ⟨ds, gs, before, [], pa, pv, hW, hres _ _ _, hargs _ hold, hvars _ hold, World.keptBut_mono (fun p hp => ⟨hp, ?_⟩) (hb.frame (· ∈ before)), fun _ => ?_⟩
  · rw [hps, List.mem_append] at hp
    exact Or.inr hp
  · obtain ⟨_, _, _, _, _, hz, hn⟩ := hW
    refine ⟨hok, _, _, ([] ++ pa) ++ pv, ⟨[] ++ pa, pv, trodAll_append (hargs _ (fun _ _ => rfl)) (hres _ _ _), hvars _ (fun _ _ => rfl), rfl, ?_, ?_⟩, ?_⟩
    · intro b off hp
      have hin : MemPlace.cell b off ∈ before := by rw [hps]; simpa using hp
      rw [hb.frozen (hlt _ hin)]
      exact hz b off hin
    · intro ha
      have := hn ha
      rw [hps] at this
      simpa using this
    · intro p hp _
      rw [hps]
      simpa using hp

/-- A row's claim out of a contract, where the first world is as the program's types say and meets a condition of its own. -/
theorem returnsInHanded_shaped_and {a : Assume} {C : Checked} {os : Os} {f : FuncId} {fn : Func} {s : ChangeSpec} {conds : List PathCond} {apart fresh handsOn again : Bool} {X : World → Array Value → Prop}
    (hX : ∀ (w w' : World) (args : Array Value), w.heap = w'.heap → X w args → X w' args)
    (own : ownKnob C.prog.godebug = none) (started : os.Started) (noInit : C.prog.inits.idxOf? f = none) (hfn : C.prog.funcs[f]? = some fn)
    (witness : ∃ (w : World) (tape : Tape) (i : Input), w.os = os ∧ (w.forCall tape i).Shaped C.prog ∧ i.vars = [] ∧ Input.okWide C.prog (w.forCall tape i) .any w.heap.size f i ∧
      ((s.pre enc C.prog fn conds apart (w.forCall tape i).memory i.args ∧ X (w.forCall tape i).memory i.args) ∧ sizedMet enc C.prog fn (OpenSpec.ofChange s) apart (w.forCall tape i).memory i.args) ∧ a.holds C.prog (lone (Frame.enter C.prog f i.args .normal) [] (w.forCall tape i)))
    (contract : ∀ (W : World) (base : Nat) (args : Array Value) (ds gs : List (DataW H)) (before : List MemPlace),
      (∀ (j : Nat) t v, fn.params[j]? = some t → args[j]? = some v → Value.okWide C.prog W .any base t v) →
      DataW.Whole enc C.prog fn.params.toList s.vars apart W args.toList ds gs before →
      conds.all (PathCond.test C.prog ⟨fn.params.toList, ds, s.plain.varTypes C.prog, gs⟩) = true →
      (DataW.weightsEach C.prog (fn.params.toList ++ s.plain.varTypes C.prog) (ds ++ gs)).all (· ≤ reachBytes) = true → X W args →
      W.ShapedOpen C.prog →
      a.holds C.prog (lone (Frame.enter C.prog f args .normal) [] W) →
      Calls C.prog f args W fun e W' => ∃ v, e = .returned v ∧ s.post enc C.prog fn apart fresh handsOn again W args v W') :
    ReturnsInHanded a C os f .any (fun w args => (s.pre enc C.prog fn conds apart w args ∧ X w args) ∧ sizedMet enc C.prog fn (OpenSpec.ofChange s) apart w args) (s.post enc C.prog fn apart fresh handsOn again) := by
  refine returnsInHanded_of_calls own started noInit witness ?_
  intro w tape i _ hsh _ hok hpre hholds
  obtain ⟨_, _, _, fn', hfn', _, _, _, _, hval⟩ := hok
  have e : fn' = fn := Option.some.inj (hfn'.symm.trans hfn)
  subst e
  obtain ⟨⟨⟨ds, gs, before, hw, hc⟩, hx⟩, hz⟩ := hpre
  have hw' := DataW.Whole.of_heap (w' := w.forCall tape i) (by rfl) hw
  refine (contract (w.forCall tape i) w.heap.size i.args ds gs before hval hw' hc (hz.weights hw) (hX _ _ _ (by rfl) hx) hsh hholds).mono fun e W' ⟨v, he, hp⟩ => ?_
  subst he
  exact ChangeSpec.post_blind hp
end
theorem Tryz_own : ownKnob Tryz.prog.godebug = none := by kernel_rfl
theorem Tryz_laidOut : laidOutB Tryz.prog = true := by kernel_rfl

/-- Go's table of first bytes as the form's constant has it, cell by cell. -/
def firstCells : Array Value := match Go.Pinned.utf8First with
  | .agg l => (l.map fun | .lit (.int k n) => Value.int k n | _ => undef).toArray
  | _ => #[]
/-- A start for the witness: the heap that the program's own laying of its variables leaves, and in it the table that it does not lay. -/
noncomputable def laidWorld (os : Os) : World :=
  let w0 := World.doorLaid Tryz.prog 400 os
  { w0 with heap := w0.heap.modify 1 fun
      | .cells _ t fr => .cells firstCells t fr
      | o => o }
theorem laidWorld_shaped (os : Os) (args : Array Value) : ((laidWorld os).forCall (fun _ _ => 0) ⟨#[], args, []⟩).Shaped Tryz.prog :=
  World.shaped_of_RefB (by kernel_rfl) (by kernel_rfl)
end Go.Proofs.YtfpdeiefkimaaaaGreatDoor
/-
  An instruction that comes in, opened to its cells; what the row's condition says of the library's variables.
-/
set_option linter.unusedSimpArgs false
set_option linter.unusedVariables false
namespace Go.Proofs.YtfpdeiefkimaaaaGreatDoor
open Go.ChangeShapes Go.WideShapes Go.ChangeAt Go.RowKit

theorem str_bs (s : ByteArray) (h : s.size ≤ maxLen) : Value.string s = .string (bs s.data.toList) ∧ s.data.toList.length ≤ 9223372036854775807 := by
  rw [bs_of]
  refine ⟨rfl, ?_⟩
  unfold maxLen at h
  simpa using h

section
variable {H : Type} {enc : TypeId × Value → H} {w : World} {base : Nat} {spare : Nat → Bool} {held : Bool} {fuel : Nat} {cs : List Value} {x : DataW H × List MemPlace}
end

theorem laid_mem {P : Program} {W : World} {n : String} {d : DataW Unit} : ∀ {l : List (String × DataW Unit)} {ps : List MemPlace}, DataW.LaidVars P W l ps → (n, d) ∈ l →
    ∃ g t cs fuel p, P.globalNamed n = some g ∧ (P.globals[g]?).map (·.type) = some t ∧ W.var? P n = some cs ∧ DataW.trod (fun _ => ()) P W 0 (fun _ => true) false fuel t cs.toList = some (d, p) := by
  intro l
  induction l with
  | nil => intro ps _ h; cases h
  | cons x r ih =>
    intro ps h hm
    obtain ⟨g, t, cs, fuel, p, q, h1, h2, h3, h4, h5, _⟩ := h
    rcases List.mem_cons.1 hm with rfl | hm
    · exact ⟨g, t, cs, fuel, p, h1, h2, h3, h4⟩
    · exact ih h5 hm

/-- What the row's condition gives the walks. -/
theorem rdy_of {W : World} {l : List (String × DataW Unit)} (hp : (l.all fun x => x.2.handleName?.isNone) = true) (hmem : ("internal/strconv.uint64pow10", Rows.laid_internal_strconv_uint64pow10) ∈ l) (h : laidMetH Tryz.prog l W) (hs : W.ShapedOpen Tryz.prog) : Rdy W := by
  refine ⟨cell_of_shapedOpen_int hs (t := 3) (zero := #[.int .i64 0]) (of_decide_eq_true (by kernel_rfl)) (by kernel_rfl) rfl (by kernel_rfl) (by kernel_rfl) Tryz.underlying3, ?_⟩
  rw [MakeChecks.laidMetH_plain _ _ _ hp] at h
  obtain ⟨ps, hl, _⟩ := h
  obtain ⟨g, t, cs, fuel, p, h1, h2, h3, h4⟩ := laid_mem hl hmem
  have g1 : Tryz.prog.globalNamed "internal/strconv.uint64pow10" = some 4 := by kernel_rfl
  have g2 : (Tryz.prog.globals[4]?).map (·.type) = some 254 := by kernel_rfl
  obtain rfl := Option.some.inj (g1.symm.trans h1)
  obtain rfl := Option.some.inj (g2.symm.trans h2)
  unfold Tab10 Lib.TabIs
  rw [h3, ← Lib.cells_of_tab (zs := Lib.pow10Tab) (k := .u64) Tryz.underlying254 Tryz.underlying236 (by kernel_rfl) (by kernel_rfl) h4]
end Go.Proofs.YtfpdeiefkimaaaaGreatDoor
/-
  A slice of instructions that comes in, opened.
-/
set_option linter.unusedSimpArgs false
set_option linter.unusedVariables false
namespace Go.Proofs.YtfpdeiefkimaaaaGreatDoor
open Go.ChangeShapes Go.WideShapes Go.ChangeAt Go.RowKit Go.Deep

end Go.Proofs.YtfpdeiefkimaaaaGreatDoor
/-
  A class that comes in, opened to its cells and what these point to.
-/
set_option linter.unusedSimpArgs false
set_option linter.unusedVariables false
namespace Go.Proofs.YtfpdeiefkimaaaaGreatDoor
open Go.ChangeShapes Go.WideShapes Go.ChangeAt Go.RowKit Go.Deep

def MethL.num (m : MethL) : Prop := (-9223372036854775808 ≤ m.fl ∧ m.fl ≤ 9223372036854775807) ∧ (-9223372036854775808 ≤ m.lo ∧ m.lo ≤ 9223372036854775807) ∧ (-9223372036854775808 ≤ m.st ∧ m.st ≤ 9223372036854775807)
/-- What a method that lies in memory is like. -/
structure MethL.fit (w : World) (m : MethL) : Prop where
  at_ : InstsAt w m.A m.code
  cap : m.code.length ≤ m.cap
  fits : ∀ i, i ∈ m.code → i.fit
  nums : ∀ i, i ∈ m.code → i.num
  len : m.code.length ≤ 2000000000000
  nm : m.nm.length ≤ 9223372036854775807
  ds : m.ds.length ≤ 9223372036854775807
  num : m.num
theorem MethL.fit.upd {w w' : World} {m : MethL} (h : m.fit w) (u : Upd w w' []) : m.fit w' := ⟨h.at_.upd u, h.cap, h.fits, h.nums, h.len, h.nm, h.ds, h.num⟩
/-- What a class that lies in memory is like. -/
structure ClassL.fit (w : World) (c : ClassL) : Prop where
  nm : c.nm.length ≤ 9223372036854775807
  sup : c.sup.length ≤ 9223372036854775807
  ifs : StrsAt w c.AI c.ifs
  capI : c.ifs.length ≤ c.cI
  lenI : c.ifs.length ≤ 9000000000000
  strs : ∀ x, x ∈ c.ifs → x.length ≤ 9223372036854775807
  ms : MethsAt w c.AM c.ms
  capM : c.ms.length ≤ c.cM
  lenM : c.ms.length ≤ 2000000000000
  meths : ∀ m, m ∈ c.ms → m.fit w
  flN : -9223372036854775808 ≤ c.fl ∧ c.fl ≤ 9223372036854775807
  ldN : -9223372036854775808 ≤ c.ld ∧ c.ld ≤ 9223372036854775807
theorem ClassL.fit.upd {w w' : World} {c : ClassL} (h : c.fit w) (u : Upd w w' []) : c.fit w' :=
  ⟨h.nm, h.sup, h.ifs.upd u, h.capI, h.lenI, h.strs, h.ms.upd u, h.capM, h.lenM, fun m hm => (h.meths m hm).upd u, h.flN, h.ldN⟩

/-- What the row says of an argument's reach, of a part of it. -/
def Small {H : Type} (t : TypeId) (d : DataW H) : Prop := ∀ n, n ∈ d.weights Tryz.prog t → n ≤ reachBytes
theorem Small.of_all {H : Type} {ts : List TypeId} {ds : List (DataW H)} (hsz : (DataW.weightsEach Tryz.prog ts ds).all (· ≤ reachBytes) = true) {j : Nat} {t : TypeId} {d : DataW H} (ht : ts[j]? = some t) (hd : ds[j]? = some d) : Small t d :=
  fun n hn => by simpa using List.all_eq_true.1 hsz n (DataW.weights_mem_each ht hd n hn)
theorem weights_mem_all {H : Type} {P : Program} {e : TypeId} : ∀ {l : List (DataW H)} {d : DataW H}, d ∈ l → ∀ n ∈ d.weights P e, n ∈ DataW.weightsAll P e l
  | _ :: _, _, h, n, hn => by
    unfold DataW.weightsAll
    rcases List.mem_cons.1 h with rfl | h
    · exact List.mem_append_left _ hn
    · exact List.mem_append_right _ (weights_mem_all h n hn)
theorem Small.slice {H : Type} {t e : TypeId} {D R : List (DataW H)} (h : Small t (.slice D R)) (hu : Tryz.prog.underlying t = some (.slice e)) : D.length * Tryz.prog.bytesOf e ≤ reachBytes ∧ ∀ d, d ∈ D → Small e d := by
  unfold Small at h
  simp only [DataW.weights, hu] at h
  refine ⟨?_, fun d hd n hn => h n (List.mem_cons_of_mem _ (List.mem_append_left _ (weights_mem_all hd n hn)))⟩
  have h1 := h _ (List.mem_cons_self ..)
  exact Nat.le_trans (Nat.mul_le_mul_right _ (by omega)) h1
theorem Small.struct {H : Type} {t : TypeId} {fs : Array Field} {D : List (DataW H)} (h : Small t (.agg D)) (hu : Tryz.prog.underlying t = some (.struct fs)) {j : Nat} {f : Field} {d : DataW H} (hf : fs[j]? = some f) (hd : D[j]? = some d) : Small f.type d := by
  unfold Small at h
  simp only [DataW.weights, hu] at h
  exact fun n hn => h n (DataW.weights_mem_each (by rw [List.getElem?_map, Array.getElem?_toList, hf]; rfl) hd n hn)

section
variable {H : Type} {enc : TypeId × Value → H} {w : World} {base : Nat} {held : Bool} {fuel : Nat} {cs : List Value} {x : DataW H × List MemPlace}

end

end Go.Proofs.YtfpdeiefkimaaaaGreatDoor
