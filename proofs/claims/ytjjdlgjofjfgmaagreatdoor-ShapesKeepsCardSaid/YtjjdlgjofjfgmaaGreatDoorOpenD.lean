/-
 A class that comes in as an argument, with what a row says of its reach.
-/
import Derived.Test.YtjjdlgjofjfgmaaGreatDoorKC
set_option linter.unusedSimpArgs false
set_option linter.unusedVariables false
namespace Go.Proofs.YtjjdlgjofjfgmaaGreatDoor
open Go.ChangeShapes Go.WideShapes Go.ChangeAt Go.RowKit Go.Deep
def ClassL.small (c : ClassL) : Prop := c.ifs.length ≤ 8796093021952 ∧ c.ms.length ≤ 1759218604390 ∧ ∀ m, m ∈ c.ms → m.code.length ≤ 1599289640354
section
variable {H : Type} {enc : TypeId × Value → H} {w : World} {base : Nat} {held : Bool} {fuel : Nat} {cs : List Value} {x : DataW H × List MemPlace}
set_option maxRecDepth 100000 in
theorem insts_of_trod2 (h : DataW.trod enc Tryz.prog w base (fun _ => true) held fuel 32 cs = some x) (hs : Small 32 x.1) :
  ∃ A l c, cs = [.slice A (List.length (α := InstL) l) c] ∧ InstsAt w A l ∧ l.length ≤ c ∧ (∀ i, i ∈ l → i.fit) ∧ (∀ i, i ∈ l → i.num) ∧ l.length ≤ 1599289640354 := by
 rcases open_slice Tryz.underlying32 h with ⟨rfl, rfl⟩ | ⟨a, len, cap, m, n, D, Pl, rfl, hb, hl, hm, hmm, rfl, hi⟩
 ·exact ⟨none, [], 0, rfl, fun h => absurd rfl h, by simp, by simp, by simp, by simp⟩
 ·simp only [if_true] at hmm
  subst hmm
  rw [cells_Inst] at hi
  have hlen := (hs.slice Tryz.underlying32).1
  rw [bytes_Inst, List.length_map, List.length_range] at hlen
  simp only [reachBytes] at hlen
  have key : ∀ i, i < len → ∃ x : InstL, (∀ j, j < 7 → w.cell? ((a.add (i * 7)).add j) = x.cells[j]?) ∧ x.fit ∧ x.num := by
   intro i hil
   obtain ⟨cs', hc, ht⟩ := hi i (by omega)
   obtain ⟨_, hcl, hat⟩ := World.cells?_some hc
   obtain ⟨x, rfl, hfit, hnum⟩ := inst_of_trod ht
   exact ⟨x, fun j hj => by rw [hat j hj, Array.getElem?_toList], hfit, hnum⟩
  obtain ⟨f, hfx⟩ := pick_each ⟨0, 0, [], noRefL⟩ key
  have hmem : ∀ x, x ∈ (List.range len).map f → ∃ i, i < len ∧ x = f i := by
   intro x hx
   obtain ⟨i, hi, rfl⟩ := List.mem_map.1 hx
   exact ⟨i, List.mem_range.1 hi, rfl⟩
  refine ⟨some a, (List.range len).map f, m, by simp, ?_, by simpa using hl, fun x hx => ?_, fun x hx => ?_, by simp; omega⟩
  ·intro hne
   have hpos : 0 < len := by
    rcases Nat.eq_zero_or_pos len with h0 | h0
    ·subst h0; simp at hne
    ·exact h0
   have hs : a.spot = none := by
    have := (hfx 0 hpos).1 0 (by omega)
    simp [Addr.add, InstL.cells] at this
    exact nospot this
   have hcell : ∀ i, i < len → ∀ j, j < 7 → w.cell? ⟨a.block, a.off + i * 7 + j, none⟩ = (f i).cells[j]? := by
    intro i hil j hj
    have := (hfx i hil).1 j hj
    rw [add_at hs, add_at rfl] at this
    exact this
   refine ⟨a.block, a.off, ?_, ?_, fun i hi j hj => ?_⟩
   ·obtain ⟨b, o, s⟩ := a; simp only at hs; rw [hs]
   ·have := hcell 0 hpos 0 (by omega)
    exact World.block_lt_of_cell? w ⟨a.block, _, none⟩ this
   ·simp only [List.length_map, List.length_range] at hi
    rw [hcell i hi j hj]
    simp
  ·obtain ⟨i, hi, rfl⟩ := hmem x hx
   exact (hfx i hi).2.1
  ·obtain ⟨i, hi, rfl⟩ := hmem x hx
   exact (hfx i hi).2.2
set_option maxRecDepth 100000 in
theorem strs_of_trod2 (h : DataW.trod enc Tryz.prog w base (fun _ => true) held fuel 22 cs = some x) (hs : Small 22 x.1) :
  ∃ A l c, cs = [.slice A (List.length (α := List UInt8) l) c] ∧ StrsAt w A l ∧ l.length ≤ c ∧ (∀ i, i ∈ l → i.length ≤ 9223372036854775807) ∧ l.length ≤ 8796093021952 := by
 rcases open_slice Tryz.underlying22 h with ⟨rfl, rfl⟩ | ⟨a, len, cap, m, n, D, Pl, rfl, hb, hl, hm, hmm, rfl, hi⟩
 ·exact ⟨none, [], 0, rfl, fun h => absurd rfl h, by simp, by simp, by simp⟩
 ·simp only [if_true] at hmm
  subst hmm
  rw [cells_string] at hi
  have hlen := (hs.slice Tryz.underlying22).1
  rw [bytes_string, List.length_map, List.length_range] at hlen
  simp only [reachBytes] at hlen
  have key : ∀ i, i < len → ∃ x : List UInt8, w.cell? (a.add i) = some (.string (bs x)) ∧ x.length ≤ 9223372036854775807 := by
   intro i hil
   obtain ⟨cs', hc, ht⟩ := hi i (by omega)
   obtain ⟨_, hcl, hat⟩ := World.cells?_some hc
   obtain ⟨b, hb, _, hb2⟩ := DataW.trod_string Tryz.underlying9 ht
   have h0 := hat 0 (by omega)
   rw [hb] at h0
   refine ⟨b.data.toList, ?_, (str_bs b hb2).2⟩
   rw [← (str_bs b hb2).1]
   simp [Addr.add] at h0 ⊢
   exact h0
  obtain ⟨f, hfx⟩ := pick_each [] key
  refine ⟨some a, (List.range len).map f, m, by simp, ?_, by simpa using hl, fun x hx => ?_, by simp; omega⟩
  ·intro hne
   have hpos : 0 < len := by
    rcases Nat.eq_zero_or_pos len with h0 | h0
    ·subst h0; simp at hne
    ·exact h0
   have hs : a.spot = none := by
    have := (hfx 0 hpos).1
    simp [Addr.add] at this
    exact nospot this
   have hcell : ∀ i, i < len → w.cell? ⟨a.block, a.off + i, none⟩ = some (.string (bs (f i))) := by
    intro i hil
    have := (hfx i hil).1
    rw [add_at hs] at this
    exact this
   refine ⟨a.block, a.off, ?_, ?_, fun i hi => ?_⟩
   ·obtain ⟨b, o, s⟩ := a; simp only at hs; rw [hs]
   ·have := hcell 0 hpos
    exact World.block_lt_of_cell? w ⟨a.block, _, none⟩ this
   ·simp only [List.length_map, List.length_range] at hi
    rw [hcell i hi]
    simp
  ·obtain ⟨i, hi, rfl⟩ := List.mem_map.1 hx
   exact (hfx i (List.mem_range.1 hi)).2
set_option maxRecDepth 100000 in
theorem meth_of_trod2 (h : DataW.trod enc Tryz.prog w base (fun _ => true) held fuel 34 cs = some x) (hs : Small 34 x.1) :
  ∃ m : MethL, cs = m.cells.toList ∧ m.fit w ∧ m.code.length ≤ 1599289640354 := by
 obtain ⟨xs, n, _, hx, hl, hxl, hf⟩ := DataW.trod_struct Tryz.underlying34 h
 rw [cells_Method] at hl
 have h0 : DataW.trod enc Tryz.prog w base (fun _ => true) held n 9 ((cs.drop 0).take (Tryz.prog.cellsOf 9)) = xs[0]? := hf 0 _ rfl
 have h1 : DataW.trod enc Tryz.prog w base (fun _ => true) held n 9 ((cs.drop 1).take (Tryz.prog.cellsOf 9)) = xs[1]? := hf 1 _ rfl
 have h2 : DataW.trod enc Tryz.prog w base (fun _ => true) held n 3 ((cs.drop 2).take (Tryz.prog.cellsOf 3)) = xs[2]? := hf 2 _ rfl
 have h3 : DataW.trod enc Tryz.prog w base (fun _ => true) held n 3 ((cs.drop 3).take (Tryz.prog.cellsOf 3)) = xs[3]? := hf 3 _ rfl
 have h4 : DataW.trod enc Tryz.prog w base (fun _ => true) held n 3 ((cs.drop 4).take (Tryz.prog.cellsOf 3)) = xs[4]? := hf 4 _ rfl
 have h5 : DataW.trod enc Tryz.prog w base (fun _ => true) held n 32 ((cs.drop 5).take (Tryz.prog.cellsOf 32)) = xs[5]? := hf 5 _ rfl
 rw [cells_int] at h2 h3 h4
 rw [cells_string] at h0 h1
 rw [cells_Insts] at h5
 match cs, hl with
 | [c0, c1, c2, c3, c4, c5], _ =>
  match xs, hxl with
  | [y0, y1, y2, y3, y4, y5], _ =>
   have hs5 : Small 32 y5.1 := by
    have : x.1 = .agg ([y0, y1, y2, y3, y4, y5].map (·.1)) := by rw [hx]
    rw [this] at hs
    exact hs.struct Tryz.underlying34 (j := 5) rfl rfl
   obtain ⟨a, ha, _, ha2⟩ := DataW.trod_string Tryz.underlying9 h0
   obtain ⟨b, hb, _, hb2⟩ := DataW.trod_string Tryz.underlying9 h1
   obtain ⟨c, hc, _, hc2⟩ := DataW.trod_int Tryz.underlying3 h2
   obtain ⟨d, hd, _, hd2⟩ := DataW.trod_int Tryz.underlying3 h3
   obtain ⟨e, he, _, he2⟩ := DataW.trod_int Tryz.underlying3 h4
   obtain ⟨A, l, cap, hi, k1, k2, k3, k4, k5⟩ := insts_of_trod2 h5 hs5
   simp at ha hb hc hd he hi
   exact ⟨⟨a.data.toList, b.data.toList, c, d, e, A, cap, l⟩, by rw [ha, hb, hc, hd, he, hi, (str_bs a ha2).1, (str_bs b hb2).1]; rfl,
    ⟨k1, k2, k3, k4, by show l.length ≤ 2000000000000; omega, (str_bs a ha2).2, (str_bs b hb2).2, i64_wf hc2, i64_wf hd2, i64_wf he2⟩, k5⟩
set_option maxRecDepth 100000 in
theorem meths_of_trod2 (h : DataW.trod enc Tryz.prog w base (fun _ => true) held fuel 23 cs = some x) (hs : Small 23 x.1) :
  ∃ A l c, cs = [.slice A (List.length (α := MethL) l) c] ∧ MethsAt w A l ∧ l.length ≤ c ∧ (∀ i, i ∈ l → i.fit w ∧ i.code.length ≤ 1599289640354) ∧ l.length ≤ 1759218604390 := by
 rcases open_slice Tryz.underlying23 h with ⟨rfl, rfl⟩ | ⟨a, len, cap, m, n, D, Pl, rfl, hb, hl, hm, hmm, rfl, hi⟩
 ·exact ⟨none, [], 0, rfl, fun h => absurd rfl h, by simp, by simp, by simp⟩
 ·simp only [if_true] at hmm
  subst hmm
  rw [cells_Method] at hi
  obtain ⟨hlen, hsm⟩ := hs.slice Tryz.underlying23
  rw [bytes_Method, List.length_map, List.length_range] at hlen
  simp only [reachBytes] at hlen
  have key : ∀ i, i < len → ∃ x : MethL, (∀ j, j < 6 → w.cell? ((a.add (i * 6)).add j) = x.cells[j]?) ∧ x.fit w ∧ x.code.length ≤ 1599289640354 := by
   intro i hil
   obtain ⟨cs', hc, ht⟩ := hi i (by omega)
   obtain ⟨_, hcl, hat⟩ := World.cells?_some hc
   obtain ⟨x, rfl, hfit⟩ := meth_of_trod2 ht (hsm _ (List.mem_map.2 ⟨i, List.mem_range.2 hil, rfl⟩))
   exact ⟨x, fun j hj => by rw [hat j hj, Array.getElem?_toList], hfit⟩
  obtain ⟨f, hfx⟩ := pick_each ⟨[], [], 0, 0, 0, none, 0, []⟩ key
  refine ⟨some a, (List.range len).map f, m, by simp, ?_, by simpa using hl, fun x hx => ?_, by simp; omega⟩
  ·intro hne
   have hpos : 0 < len := by
    rcases Nat.eq_zero_or_pos len with h0 | h0
    ·subst h0; simp at hne
    ·exact h0
   have hs : a.spot = none := by
    have := (hfx 0 hpos).1 0 (by omega)
    simp [Addr.add, MethL.cells] at this
    exact nospot this
   have hcell : ∀ i, i < len → ∀ j, j < 6 → w.cell? ⟨a.block, a.off + i * 6 + j, none⟩ = (f i).cells[j]? := by
    intro i hil j hj
    have := (hfx i hil).1 j hj
    rw [add_at hs, add_at rfl] at this
    exact this
   refine ⟨a.block, a.off, ?_, ?_, fun i hi j hj => ?_⟩
   ·obtain ⟨b, o, s⟩ := a; simp only at hs; rw [hs]
   ·have := hcell 0 hpos 0 (by omega)
    exact World.block_lt_of_cell? w ⟨a.block, _, none⟩ this
   ·simp only [List.length_map, List.length_range] at hi
    rw [hcell i hi j hj]
    simp
  ·obtain ⟨i, hi, rfl⟩ := List.mem_map.1 hx
   exact (hfx i (List.mem_range.1 hi)).2
set_option maxRecDepth 100000 in
theorem class_of_trod2 (h : DataW.trod enc Tryz.prog w base (fun _ => true) held fuel 25 cs = some x) (hs : Small 25 x.1) :
  ∃ c : ClassL, cs = c.cells.toList ∧ c.fit w ∧ c.small := by
 obtain ⟨xs, n, _, hx, hl, hxl, hf⟩ := DataW.trod_struct Tryz.underlying25 h
 rw [cells_Class] at hl
 have h0 : DataW.trod enc Tryz.prog w base (fun _ => true) held n 9 ((cs.drop 0).take (Tryz.prog.cellsOf 9)) = xs[0]? := hf 0 _ rfl
 have h1 : DataW.trod enc Tryz.prog w base (fun _ => true) held n 9 ((cs.drop 1).take (Tryz.prog.cellsOf 9)) = xs[1]? := hf 1 _ rfl
 have h2 : DataW.trod enc Tryz.prog w base (fun _ => true) held n 22 ((cs.drop 2).take (Tryz.prog.cellsOf 22)) = xs[2]? := hf 2 _ rfl
 have h3 : DataW.trod enc Tryz.prog w base (fun _ => true) held n 3 ((cs.drop 3).take (Tryz.prog.cellsOf 3)) = xs[3]? := hf 3 _ rfl
 have h4 : DataW.trod enc Tryz.prog w base (fun _ => true) held n 3 ((cs.drop 4).take (Tryz.prog.cellsOf 3)) = xs[4]? := hf 4 _ rfl
 have h5 : DataW.trod enc Tryz.prog w base (fun _ => true) held n 23 ((cs.drop 5).take (Tryz.prog.cellsOf 23)) = xs[5]? := hf 5 _ rfl
 rw [cells_int] at h3 h4
 rw [cells_string] at h0 h1
 rw [cells_Strs] at h2
 rw [cells_Meths] at h5
 match cs, hl with
 | [c0, c1, c2, c3, c4, c5], _ =>
  match xs, hxl with
  | [y0, y1, y2, y3, y4, y5], _ =>
   have hx1 : x.1 = .agg ([y0, y1, y2, y3, y4, y5].map (·.1)) := by rw [hx]
   rw [hx1] at hs
   have hs2 : Small 22 y2.1 := hs.struct Tryz.underlying25 (j := 2) rfl rfl
   have hs5 : Small 23 y5.1 := hs.struct Tryz.underlying25 (j := 5) rfl rfl
   obtain ⟨a, ha, _, ha2⟩ := DataW.trod_string Tryz.underlying9 h0
   obtain ⟨b, hb, _, hb2⟩ := DataW.trod_string Tryz.underlying9 h1
   obtain ⟨A, l, cap, hi, k1, k2, k3, k4⟩ := strs_of_trod2 h2 hs2
   obtain ⟨c, hc, _, hc2⟩ := DataW.trod_int Tryz.underlying3 h3
   obtain ⟨d, hd, _, hd2⟩ := DataW.trod_int Tryz.underlying3 h4
   obtain ⟨B, r, cap', hj, q1, q2, q3, q4⟩ := meths_of_trod2 h5 hs5
   simp at ha hb hc hd hi hj
   exact ⟨⟨a.data.toList, b.data.toList, A, cap, l, c, d, B, cap', r⟩, by rw [ha, hb, hc, hd, hi, hj, (str_bs a ha2).1, (str_bs b hb2).1]; rfl,
    ⟨(str_bs a ha2).2, (str_bs b hb2).2, k1, k2, by show l.length ≤ 9000000000000; omega, k3, q1, q2, by show r.length ≤ 2000000000000; omega, fun m hm => (q3 m hm).1, i64_wf hc2, i64_wf hd2⟩, k4, q4, fun m hm => (q3 m hm).2⟩
end
set_option maxRecDepth 100000 in
theorem open_class2 {H : Type} {enc : TypeId × Value → H} {W : World} {base : Nat} {v : Value} {d : DataW H} {p : List MemPlace} (hv : Value.okWide Tryz.prog W .any base 25 v)
  (h : DataW.Trod enc Tryz.prog W 0 (fun _ => true) true 25 v d p) (hs : Small 25 d) : ∃ c : ClassL, v = c.v ∧ c.fit W ∧ c.small := by
 obtain ⟨fuel, hf⟩ := h
 obtain ⟨c, hc, hfit⟩ := class_of_trod2 hf hs
 refine ⟨c, ?_, hfit⟩
 obtain ⟨cs, rfl, hlen⟩ := okWide_struct Tryz.underlying25 hv
 unfold ClassL.v
 simp [Value.cells] at hc
 rw [hc]
end Go.Proofs.YtjjdlgjofjfgmaaGreatDoor
