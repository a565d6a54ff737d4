/-
  An instruction that comes in, opened to its cells; what the row's condition says of the library's variables.
-/
import Derived.Test.YtjjdlgjofjfgmaaDoorRowEnd
import Derived.Shelf.Vars
import Derived.Lib.LaidTab
import Derived.MakeChecks
set_option linter.unusedSimpArgs false
set_option linter.unusedVariables false
namespace Go.Proofs.YtjjdlgjofjfgmaaDoor
open Go.ChangeShapes Go.WideShapes Go.ChangeAt Go.RowKit

theorem cells_Ref : Tryd.prog.cellsOf 23 = 4 := by kernel_rfl
theorem cells_Inst : Tryd.prog.cellsOf 25 = 7 := by kernel_rfl
theorem cells_int : Tryd.prog.cellsOf 3 = 1 := by kernel_rfl
theorem cells_bool : Tryd.prog.cellsOf 4 = 1 := by kernel_rfl
theorem cells_string : Tryd.prog.cellsOf 9 = 1 := by kernel_rfl

theorem str_bs (s : ByteArray) (h : s.size ≤ maxLen) : Value.string s = .string (bs s.data.toList) ∧ s.data.toList.length ≤ 9223372036854775807 := by
  rw [bs_of]
  refine ⟨rfl, ?_⟩
  unfold maxLen at h
  simpa using h

section
variable {H : Type} {enc : TypeId × Value → H} {w : World} {base : Nat} {spare : Nat → Bool} {held : Bool} {fuel : Nat} {cs : List Value} {x : DataW H × List MemPlace}
set_option maxRecDepth 100000 in
theorem ref_of_trod (h : DataW.trod enc Tryd.prog w base spare held fuel 23 cs = some x) :
    ∃ r : RefL, cs = [.bool r.ifc, .string (bs r.cls), .string (bs r.nm), .string (bs r.ds)] ∧ r.fit := by
  obtain ⟨xs, n, _, _, hl, hxl, hf⟩ := DataW.trod_struct Tryd.underlying23 h
  rw [cells_Ref] at hl
  have h0 : DataW.trod enc Tryd.prog w base spare held n 4 ((cs.drop 0).take (Tryd.prog.cellsOf 4)) = xs[0]? := hf 0 _ rfl
  have h1 : DataW.trod enc Tryd.prog w base spare held n 9 ((cs.drop 1).take (Tryd.prog.cellsOf 9)) = xs[1]? := hf 1 _ rfl
  have h2 : DataW.trod enc Tryd.prog w base spare held n 9 ((cs.drop 2).take (Tryd.prog.cellsOf 9)) = xs[2]? := hf 2 _ rfl
  have h3 : DataW.trod enc Tryd.prog w base spare held n 9 ((cs.drop 3).take (Tryd.prog.cellsOf 9)) = xs[3]? := hf 3 _ rfl
  rw [cells_bool] at h0
  rw [cells_string] at h1 h2 h3
  match cs, hl with
  | [c0, c1, c2, c3], _ =>
    match xs, hxl with
    | [y0, y1, y2, y3], _ =>
      obtain ⟨a, ha, _⟩ := DataW.trod_bool Tryd.underlying4 h0
      obtain ⟨b, hb, _, hb2⟩ := DataW.trod_string Tryd.underlying9 h1
      obtain ⟨c, hc, _, hc2⟩ := DataW.trod_string Tryd.underlying9 h2
      obtain ⟨d, hd, _, hd2⟩ := DataW.trod_string Tryd.underlying9 h3
      simp at ha hb hc hd
      exact ⟨⟨a, b.data.toList, c.data.toList, d.data.toList⟩, by rw [ha, hb, hc, hd, (str_bs b hb2).1, (str_bs c hc2).1, (str_bs d hd2).1], (str_bs b hb2).2, (str_bs c hc2).2, (str_bs d hd2).2⟩

theorem i64_wf {n : Int} (h : (Lit.int .i64 n).wf = true) : -9223372036854775808 ≤ n ∧ n ≤ 9223372036854775807 := by
  simp [Lit.wf] at h
  first | exact h | (simp [IntKind.min, IntKind.max] at h; omega)

set_option maxRecDepth 100000 in
theorem inst_of_trod (h : DataW.trod enc Tryd.prog w base spare held fuel 25 cs = some x) :
    ∃ i : InstL, cs = i.cells.toList ∧ i.fit ∧ i.num := by
  obtain ⟨xs, n, _, _, hl, hxl, hf⟩ := DataW.trod_struct Tryd.underlying25 h
  rw [cells_Inst] at hl
  have h0 : DataW.trod enc Tryd.prog w base spare held n 3 ((cs.drop 0).take (Tryd.prog.cellsOf 3)) = xs[0]? := hf 0 _ rfl
  have h1 : DataW.trod enc Tryd.prog w base spare held n 3 ((cs.drop 1).take (Tryd.prog.cellsOf 3)) = xs[1]? := hf 1 _ rfl
  have h2 : DataW.trod enc Tryd.prog w base spare held n 9 ((cs.drop 2).take (Tryd.prog.cellsOf 9)) = xs[2]? := hf 2 _ rfl
  have h3 : DataW.trod enc Tryd.prog w base spare held n 23 ((cs.drop 3).take (Tryd.prog.cellsOf 23)) = xs[3]? := hf 3 _ rfl
  rw [cells_int] at h0 h1
  rw [cells_string] at h2
  rw [cells_Ref] at h3
  match cs, hl with
  | [c0, c1, c2, c3, c4, c5, c6], _ =>
    match xs, hxl with
    | [y0, y1, y2, y3], _ =>
      obtain ⟨a, ha, _, _⟩ := DataW.trod_int Tryd.underlying3 h0
      obtain ⟨b, hb, _, hb2⟩ := DataW.trod_int Tryd.underlying3 h1
      obtain ⟨c, hc, _, hc2⟩ := DataW.trod_string Tryd.underlying9 h2
      obtain ⟨r, hr, hr2⟩ := ref_of_trod h3
      simp at ha hb hc hr
      obtain ⟨q0, q1, q2, q3⟩ := hr
      exact ⟨⟨a, b, c.data.toList, r⟩, by rw [ha, hb, hc, q0, q1, q2, q3, (str_bs c hc2).1]; rfl, ⟨(str_bs c hc2).2, hr2⟩, i64_wf hb2⟩
end

theorem laid_mem {P : Program} {W : World} {n : String} {d : DataW Unit} : ∀ {l : List (String × DataW Unit)} {ps : List MemPlace}, DataW.LaidVars P W l ps → (n, d) ∈ l →
    ∃ g t cs fuel p, P.globalNamed n = some g ∧ (P.globals[g]?).map (·.type) = some t ∧ W.var? P n = some cs ∧ DataW.trod (fun _ => ()) P W 0 (fun _ => true) false fuel t cs.toList = some (d, p) := by
  intro l
  induction l with
  | nil => intro ps _ h; cases h
  | cons x r ih =>
    intro ps h hm
    obtain ⟨g, t, cs, fuel, p, q, h1, h2, h3, h4, h5, _⟩ := h
    rcases List.mem_cons.1 hm with rfl | hm
    · exact ⟨g, t, cs, fuel, p, h1, h2, h3, h4⟩
    · exact ih h5 hm

/-- What the row's condition gives the walks. -/
theorem rdy_of {W : World} {l : List (String × DataW Unit)} (hp : (l.all fun x => x.2.handleName?.isNone) = true) (hmem : ("internal/strconv.uint64pow10", Rows.laid_internal_strconv_uint64pow10) ∈ l) (h : laidMetH Tryd.prog l W) (hs : W.ShapedOpen Tryd.prog) : Rdy W := by
  refine ⟨cell_of_shapedOpen_int hs (t := 3) (zero := #[.int .i64 0]) (of_decide_eq_true (by kernel_rfl)) (by kernel_rfl) rfl (by kernel_rfl) (by kernel_rfl) Tryd.underlying3, ?_⟩
  rw [MakeChecks.laidMetH_plain _ _ _ hp] at h
  obtain ⟨ps, hl, _⟩ := h
  obtain ⟨g, t, cs, fuel, p, h1, h2, h3, h4⟩ := laid_mem hl hmem
  have g1 : Tryd.prog.globalNamed "internal/strconv.uint64pow10" = some 3 := by kernel_rfl
  have g2 : (Tryd.prog.globals[3]?).map (·.type) = some 164 := by kernel_rfl
  obtain rfl := Option.some.inj (g1.symm.trans h1)
  obtain rfl := Option.some.inj (g2.symm.trans h2)
  unfold Tab10 Lib.TabIs
  rw [h3, ← Lib.cells_of_tab (zs := Lib.pow10Tab) (k := .u64) Tryd.underlying164 Tryd.underlying142 (by kernel_rfl) (by kernel_rfl) h4]
end Go.Proofs.YtjjdlgjofjfgmaaDoor
