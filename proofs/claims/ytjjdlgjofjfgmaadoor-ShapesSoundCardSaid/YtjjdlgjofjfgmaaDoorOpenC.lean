/-
  A class that comes in, opened to its cells and what these point to.
-/
import Derived.Test.YtjjdlgjofjfgmaaDoorAllsF
import Derived.Test.YtjjdlgjofjfgmaaDoorClassC
set_option linter.unusedSimpArgs false
set_option linter.unusedVariables false
namespace Go.Proofs.YtjjdlgjofjfgmaaDoor
open Go.ChangeShapes Go.WideShapes Go.ChangeAt Go.RowKit Go.Deep

def MethL.num (m : MethL) : Prop := (-9223372036854775808 ≤ m.fl ∧ m.fl ≤ 9223372036854775807) ∧ (-9223372036854775808 ≤ m.lo ∧ m.lo ≤ 9223372036854775807) ∧ (-9223372036854775808 ≤ m.st ∧ m.st ≤ 9223372036854775807)
/-- What a method that lies in memory is like. -/
structure MethL.fit (w : World) (m : MethL) : Prop where
  at_ : InstsAt w m.A m.code
  cap : m.code.length ≤ m.cap
  fits : ∀ i, i ∈ m.code → i.fit
  nums : ∀ i, i ∈ m.code → i.num
  len : m.code.length ≤ 2000000000000
  nm : m.nm.length ≤ 9223372036854775807
  ds : m.ds.length ≤ 9223372036854775807
  num : m.num
theorem MethL.fit.upd {w w' : World} {m : MethL} (h : m.fit w) (u : Upd w w' []) : m.fit w' := ⟨h.at_.upd u, h.cap, h.fits, h.nums, h.len, h.nm, h.ds, h.num⟩
/-- What a class that lies in memory is like. -/
structure ClassL.fit (w : World) (c : ClassL) : Prop where
  nm : c.nm.length ≤ 9223372036854775807
  sup : c.sup.length ≤ 9223372036854775807
  ifs : StrsAt w c.AI c.ifs
  capI : c.ifs.length ≤ c.cI
  lenI : c.ifs.length ≤ 9000000000000
  strs : ∀ x, x ∈ c.ifs → x.length ≤ 9223372036854775807
  ms : MethsAt w c.AM c.ms
  capM : c.ms.length ≤ c.cM
  lenM : c.ms.length ≤ 2000000000000
  meths : ∀ m, m ∈ c.ms → m.fit w
  flN : -9223372036854775808 ≤ c.fl ∧ c.fl ≤ 9223372036854775807
  ldN : -9223372036854775808 ≤ c.ld ∧ c.ld ≤ 9223372036854775807
theorem ClassL.fit.upd {w w' : World} {c : ClassL} (h : c.fit w) (u : Upd w w' []) : c.fit w' :=
  ⟨h.nm, h.sup, h.ifs.upd u, h.capI, h.lenI, h.strs, h.ms.upd u, h.capM, h.lenM, fun m hm => (h.meths m hm).upd u, h.flN, h.ldN⟩

theorem cells_Method : Tryd.prog.cellsOf 52 = 6 := by kernel_rfl
theorem cells_Class : Tryd.prog.cellsOf 47 = 6 := by kernel_rfl
theorem cells_Insts : Tryd.prog.cellsOf 34 = 1 := by kernel_rfl
theorem cells_Meths : Tryd.prog.cellsOf 45 = 1 := by kernel_rfl
theorem cells_Strs : Tryd.prog.cellsOf 44 = 1 := by kernel_rfl
theorem bytes_Method : Tryd.prog.bytesOf 52 = 80 := by kernel_rfl
theorem bytes_string : Tryd.prog.bytesOf 9 = 16 := by kernel_rfl

/-- What the row says of an argument's reach, of a part of it. -/
def Small {H : Type} (t : TypeId) (d : DataW H) : Prop := ∀ n, n ∈ d.weights Tryd.prog t → n ≤ reachBytes
theorem Small.of_all {H : Type} {ts : List TypeId} {ds : List (DataW H)} (hsz : (DataW.weightsEach Tryd.prog ts ds).all (· ≤ reachBytes) = true) {j : Nat} {t : TypeId} {d : DataW H} (ht : ts[j]? = some t) (hd : ds[j]? = some d) : Small t d :=
  fun n hn => by simpa using List.all_eq_true.1 hsz n (DataW.weights_mem_each ht hd n hn)
theorem weights_mem_all {H : Type} {P : Program} {e : TypeId} : ∀ {l : List (DataW H)} {d : DataW H}, d ∈ l → ∀ n ∈ d.weights P e, n ∈ DataW.weightsAll P e l
  | _ :: _, _, h, n, hn => by
    unfold DataW.weightsAll
    rcases List.mem_cons.1 h with rfl | h
    · exact List.mem_append_left _ hn
    · exact List.mem_append_right _ (weights_mem_all h n hn)
theorem Small.slice {H : Type} {t e : TypeId} {D R : List (DataW H)} (h : Small t (.slice D R)) (hu : Tryd.prog.underlying t = some (.slice e)) : D.length * Tryd.prog.bytesOf e ≤ reachBytes ∧ ∀ d, d ∈ D → Small e d := by
  unfold Small at h
  simp only [DataW.weights, hu] at h
  refine ⟨?_, fun d hd n hn => h n (List.mem_cons_of_mem _ (List.mem_append_left _ (weights_mem_all hd n hn)))⟩
  have h1 := h _ (List.mem_cons_self ..)
  exact Nat.le_trans (Nat.mul_le_mul_right _ (by omega)) h1
theorem Small.struct {H : Type} {t : TypeId} {fs : Array Field} {D : List (DataW H)} (h : Small t (.agg D)) (hu : Tryd.prog.underlying t = some (.struct fs)) {j : Nat} {f : Field} {d : DataW H} (hf : fs[j]? = some f) (hd : D[j]? = some d) : Small f.type d := by
  unfold Small at h
  simp only [DataW.weights, hu] at h
  exact fun n hn => h n (DataW.weights_mem_each (by rw [List.getElem?_map, Array.getElem?_toList, hf]; rfl) hd n hn)

section
variable {H : Type} {enc : TypeId × Value → H} {w : World} {base : Nat} {held : Bool} {fuel : Nat} {cs : List Value} {x : DataW H × List MemPlace}

set_option maxRecDepth 100000 in
theorem insts_of_trod (h : DataW.trod enc Tryd.prog w base (fun _ => true) held fuel 34 cs = some x) (hs : Small 34 x.1) :
    ∃ A l c, cs = [.slice A (List.length (α := InstL) l) c] ∧ InstsAt w A l ∧ l.length ≤ c ∧ (∀ i, i ∈ l → i.fit) ∧ (∀ i, i ∈ l → i.num) ∧ l.length ≤ 2000000000000 := by
  rcases open_slice Tryd.underlying34 h with ⟨rfl, rfl⟩ | ⟨a, len, cap, m, n, D, Pl, rfl, hb, hl, hm, hmm, rfl, hi⟩
  · exact ⟨none, [], 0, rfl, fun h => absurd rfl h, by simp, by simp, by simp, by simp⟩
  · simp only [if_true] at hmm
    subst hmm
    rw [cells_Inst] at hi
    have hlen := (hs.slice Tryd.underlying34).1
    rw [bytes_Inst, List.length_map, List.length_range] at hlen
    simp only [reachBytes] at hlen
    have key : ∀ i, i < len → ∃ x : InstL, (∀ j, j < 7 → w.cell? ((a.add (i * 7)).add j) = x.cells[j]?) ∧ x.fit ∧ x.num := by
      intro i hil
      obtain ⟨cs', hc, ht⟩ := hi i (by omega)
      obtain ⟨_, hcl, hat⟩ := World.cells?_some hc
      obtain ⟨x, rfl, hfit, hnum⟩ := inst_of_trod ht
      exact ⟨x, fun j hj => by rw [hat j hj, Array.getElem?_toList], hfit, hnum⟩
    obtain ⟨f, hfx⟩ := pick_each ⟨0, 0, [], noRefL⟩ key
    have hmem : ∀ x, x ∈ (List.range len).map f → ∃ i, i < len ∧ x = f i := by
      intro x hx
      obtain ⟨i, hi, rfl⟩ := List.mem_map.1 hx
      exact ⟨i, List.mem_range.1 hi, rfl⟩
    refine ⟨some a, (List.range len).map f, m, by simp, ?_, by simpa using hl, fun x hx => ?_, fun x hx => ?_, by simp; omega⟩
    · intro hne
      have hpos : 0 < len := by
        rcases Nat.eq_zero_or_pos len with h0 | h0
        · subst h0; simp at hne
        · exact h0
      have hs : a.spot = none := by
        have := (hfx 0 hpos).1 0 (by omega)
        simp [Addr.add, InstL.cells] at this
        exact nospot this
      have hcell : ∀ i, i < len → ∀ j, j < 7 → w.cell? ⟨a.block, a.off + i * 7 + j, none⟩ = (f i).cells[j]? := by
        intro i hil j hj
        have := (hfx i hil).1 j hj
        rw [add_at hs, add_at rfl] at this
        exact this
      refine ⟨a.block, a.off, ?_, ?_, fun i hi j hj => ?_⟩
      · obtain ⟨b, o, s⟩ := a; simp only at hs; rw [hs]
      · have := hcell 0 hpos 0 (by omega)
        exact World.block_lt_of_cell? w ⟨a.block, _, none⟩ this
      · simp only [List.length_map, List.length_range] at hi
        rw [hcell i hi j hj]
        simp
    · obtain ⟨i, hi, rfl⟩ := hmem x hx
      exact (hfx i hi).2.1
    · obtain ⟨i, hi, rfl⟩ := hmem x hx
      exact (hfx i hi).2.2

set_option maxRecDepth 100000 in
theorem strs_of_trod (h : DataW.trod enc Tryd.prog w base (fun _ => true) held fuel 44 cs = some x) (hs : Small 44 x.1) :
    ∃ A l c, cs = [.slice A (List.length (α := List UInt8) l) c] ∧ StrsAt w A l ∧ l.length ≤ c ∧ (∀ i, i ∈ l → i.length ≤ 9223372036854775807) ∧ l.length ≤ 9000000000000 := by
  rcases open_slice Tryd.underlying44 h with ⟨rfl, rfl⟩ | ⟨a, len, cap, m, n, D, Pl, rfl, hb, hl, hm, hmm, rfl, hi⟩
  · exact ⟨none, [], 0, rfl, fun h => absurd rfl h, by simp, by simp, by simp⟩
  · simp only [if_true] at hmm
    subst hmm
    rw [cells_string] at hi
    have hlen := (hs.slice Tryd.underlying44).1
    rw [bytes_string, List.length_map, List.length_range] at hlen
    simp only [reachBytes] at hlen
    have key : ∀ i, i < len → ∃ x : List UInt8, w.cell? (a.add i) = some (.string (bs x)) ∧ x.length ≤ 9223372036854775807 := by
      intro i hil
      obtain ⟨cs', hc, ht⟩ := hi i (by omega)
      obtain ⟨_, hcl, hat⟩ := World.cells?_some hc
      obtain ⟨b, hb, _, hb2⟩ := DataW.trod_string Tryd.underlying9 ht
      have h0 := hat 0 (by omega)
      rw [hb] at h0
      refine ⟨b.data.toList, ?_, (str_bs b hb2).2⟩
      rw [← (str_bs b hb2).1]
      simp [Addr.add] at h0 ⊢
      exact h0
    obtain ⟨f, hfx⟩ := pick_each [] key
    refine ⟨some a, (List.range len).map f, m, by simp, ?_, by simpa using hl, fun x hx => ?_, by simp; omega⟩
    · intro hne
      have hpos : 0 < len := by
        rcases Nat.eq_zero_or_pos len with h0 | h0
        · subst h0; simp at hne
        · exact h0
      have hs : a.spot = none := by
        have := (hfx 0 hpos).1
        simp [Addr.add] at this
        exact nospot this
      have hcell : ∀ i, i < len → w.cell? ⟨a.block, a.off + i, none⟩ = some (.string (bs (f i))) := by
        intro i hil
        have := (hfx i hil).1
        rw [add_at hs] at this
        exact this
      refine ⟨a.block, a.off, ?_, ?_, fun i hi => ?_⟩
      · obtain ⟨b, o, s⟩ := a; simp only at hs; rw [hs]
      · have := hcell 0 hpos
        exact World.block_lt_of_cell? w ⟨a.block, _, none⟩ this
      · simp only [List.length_map, List.length_range] at hi
        rw [hcell i hi]
        simp
    · obtain ⟨i, hi, rfl⟩ := List.mem_map.1 hx
      exact (hfx i (List.mem_range.1 hi)).2

set_option maxRecDepth 100000 in
theorem meth_of_trod (h : DataW.trod enc Tryd.prog w base (fun _ => true) held fuel 52 cs = some x) (hs : Small 52 x.1) :
    ∃ m : MethL, cs = m.cells.toList ∧ m.fit w := by
  obtain ⟨xs, n, _, hx, hl, hxl, hf⟩ := DataW.trod_struct Tryd.underlying52 h
  rw [cells_Method] at hl
  have h0 : DataW.trod enc Tryd.prog w base (fun _ => true) held n 9 ((cs.drop 0).take (Tryd.prog.cellsOf 9)) = xs[0]? := hf 0 _ rfl
  have h1 : DataW.trod enc Tryd.prog w base (fun _ => true) held n 9 ((cs.drop 1).take (Tryd.prog.cellsOf 9)) = xs[1]? := hf 1 _ rfl
  have h2 : DataW.trod enc Tryd.prog w base (fun _ => true) held n 3 ((cs.drop 2).take (Tryd.prog.cellsOf 3)) = xs[2]? := hf 2 _ rfl
  have h3 : DataW.trod enc Tryd.prog w base (fun _ => true) held n 3 ((cs.drop 3).take (Tryd.prog.cellsOf 3)) = xs[3]? := hf 3 _ rfl
  have h4 : DataW.trod enc Tryd.prog w base (fun _ => true) held n 3 ((cs.drop 4).take (Tryd.prog.cellsOf 3)) = xs[4]? := hf 4 _ rfl
  have h5 : DataW.trod enc Tryd.prog w base (fun _ => true) held n 34 ((cs.drop 5).take (Tryd.prog.cellsOf 34)) = xs[5]? := hf 5 _ rfl
  rw [cells_int] at h2 h3 h4
  rw [cells_string] at h0 h1
  rw [cells_Insts] at h5
  match cs, hl with
  | [c0, c1, c2, c3, c4, c5], _ =>
    match xs, hxl with
    | [y0, y1, y2, y3, y4, y5], _ =>
      have hs5 : Small 34 y5.1 := by
        have : x.1 = .agg ([y0, y1, y2, y3, y4, y5].map (·.1)) := by rw [hx]
        rw [this] at hs
        exact hs.struct Tryd.underlying52 (j := 5) rfl rfl
      obtain ⟨a, ha, _, ha2⟩ := DataW.trod_string Tryd.underlying9 h0
      obtain ⟨b, hb, _, hb2⟩ := DataW.trod_string Tryd.underlying9 h1
      obtain ⟨c, hc, _, hc2⟩ := DataW.trod_int Tryd.underlying3 h2
      obtain ⟨d, hd, _, hd2⟩ := DataW.trod_int Tryd.underlying3 h3
      obtain ⟨e, he, _, he2⟩ := DataW.trod_int Tryd.underlying3 h4
      obtain ⟨A, l, cap, hi, k1, k2, k3, k4, k5⟩ := insts_of_trod h5 hs5
      simp at ha hb hc hd he hi
      exact ⟨⟨a.data.toList, b.data.toList, c, d, e, A, cap, l⟩, by rw [ha, hb, hc, hd, he, hi, (str_bs a ha2).1, (str_bs b hb2).1]; rfl,
        ⟨k1, k2, k3, k4, k5, (str_bs a ha2).2, (str_bs b hb2).2, i64_wf hc2, i64_wf hd2, i64_wf he2⟩⟩

set_option maxRecDepth 100000 in
theorem meths_of_trod (h : DataW.trod enc Tryd.prog w base (fun _ => true) held fuel 45 cs = some x) (hs : Small 45 x.1) :
    ∃ A l c, cs = [.slice A (List.length (α := MethL) l) c] ∧ MethsAt w A l ∧ l.length ≤ c ∧ (∀ i, i ∈ l → i.fit w) ∧ l.length ≤ 2000000000000 := by
  rcases open_slice Tryd.underlying45 h with ⟨rfl, rfl⟩ | ⟨a, len, cap, m, n, D, Pl, rfl, hb, hl, hm, hmm, rfl, hi⟩
  · exact ⟨none, [], 0, rfl, fun h => absurd rfl h, by simp, by simp, by simp⟩
  · simp only [if_true] at hmm
    subst hmm
    rw [cells_Method] at hi
    obtain ⟨hlen, hsm⟩ := hs.slice Tryd.underlying45
    rw [bytes_Method, List.length_map, List.length_range] at hlen
    simp only [reachBytes] at hlen
    have key : ∀ i, i < len → ∃ x : MethL, (∀ j, j < 6 → w.cell? ((a.add (i * 6)).add j) = x.cells[j]?) ∧ x.fit w := by
      intro i hil
      obtain ⟨cs', hc, ht⟩ := hi i (by omega)
      obtain ⟨_, hcl, hat⟩ := World.cells?_some hc
      obtain ⟨x, rfl, hfit⟩ := meth_of_trod ht (hsm _ (List.mem_map.2 ⟨i, List.mem_range.2 hil, rfl⟩))
      exact ⟨x, fun j hj => by rw [hat j hj, Array.getElem?_toList], hfit⟩
    obtain ⟨f, hfx⟩ := pick_each ⟨[], [], 0, 0, 0, none, 0, []⟩ key
    refine ⟨some a, (List.range len).map f, m, by simp, ?_, by simpa using hl, fun x hx => ?_, by simp; omega⟩
    · intro hne
      have hpos : 0 < len := by
        rcases Nat.eq_zero_or_pos len with h0 | h0
        · subst h0; simp at hne
        · exact h0
      have hs : a.spot = none := by
        have := (hfx 0 hpos).1 0 (by omega)
        simp [Addr.add, MethL.cells] at this
        exact nospot this
      have hcell : ∀ i, i < len → ∀ j, j < 6 → w.cell? ⟨a.block, a.off + i * 6 + j, none⟩ = (f i).cells[j]? := by
        intro i hil j hj
        have := (hfx i hil).1 j hj
        rw [add_at hs, add_at rfl] at this
        exact this
      refine ⟨a.block, a.off, ?_, ?_, fun i hi j hj => ?_⟩
      · obtain ⟨b, o, s⟩ := a; simp only at hs; rw [hs]
      · have := hcell 0 hpos 0 (by omega)
        exact World.block_lt_of_cell? w ⟨a.block, _, none⟩ this
      · simp only [List.length_map, List.length_range] at hi
        rw [hcell i hi j hj]
        simp
    · obtain ⟨i, hi, rfl⟩ := List.mem_map.1 hx
      exact (hfx i (List.mem_range.1 hi)).2

set_option maxRecDepth 100000 in
theorem class_of_trod (h : DataW.trod enc Tryd.prog w base (fun _ => true) held fuel 47 cs = some x) (hs : Small 47 x.1) :
    ∃ c : ClassL, cs = c.cells.toList ∧ c.fit w := by
  obtain ⟨xs, n, _, hx, hl, hxl, hf⟩ := DataW.trod_struct Tryd.underlying47 h
  rw [cells_Class] at hl
  have h0 : DataW.trod enc Tryd.prog w base (fun _ => true) held n 9 ((cs.drop 0).take (Tryd.prog.cellsOf 9)) = xs[0]? := hf 0 _ rfl
  have h1 : DataW.trod enc Tryd.prog w base (fun _ => true) held n 9 ((cs.drop 1).take (Tryd.prog.cellsOf 9)) = xs[1]? := hf 1 _ rfl
  have h2 : DataW.trod enc Tryd.prog w base (fun _ => true) held n 44 ((cs.drop 2).take (Tryd.prog.cellsOf 44)) = xs[2]? := hf 2 _ rfl
  have h3 : DataW.trod enc Tryd.prog w base (fun _ => true) held n 3 ((cs.drop 3).take (Tryd.prog.cellsOf 3)) = xs[3]? := hf 3 _ rfl
  have h4 : DataW.trod enc Tryd.prog w base (fun _ => true) held n 3 ((cs.drop 4).take (Tryd.prog.cellsOf 3)) = xs[4]? := hf 4 _ rfl
  have h5 : DataW.trod enc Tryd.prog w base (fun _ => true) held n 45 ((cs.drop 5).take (Tryd.prog.cellsOf 45)) = xs[5]? := hf 5 _ rfl
  rw [cells_int] at h3 h4
  rw [cells_string] at h0 h1
  rw [cells_Strs] at h2
  rw [cells_Meths] at h5
  match cs, hl with
  | [c0, c1, c2, c3, c4, c5], _ =>
    match xs, hxl with
    | [y0, y1, y2, y3, y4, y5], _ =>
      have hx1 : x.1 = .agg ([y0, y1, y2, y3, y4, y5].map (·.1)) := by rw [hx]
      rw [hx1] at hs
      have hs2 : Small 44 y2.1 := hs.struct Tryd.underlying47 (j := 2) rfl rfl
      have hs5 : Small 45 y5.1 := hs.struct Tryd.underlying47 (j := 5) rfl rfl
      obtain ⟨a, ha, _, ha2⟩ := DataW.trod_string Tryd.underlying9 h0
      obtain ⟨b, hb, _, hb2⟩ := DataW.trod_string Tryd.underlying9 h1
      obtain ⟨A, l, cap, hi, k1, k2, k3, k4⟩ := strs_of_trod h2 hs2
      obtain ⟨c, hc, _, hc2⟩ := DataW.trod_int Tryd.underlying3 h3
      obtain ⟨d, hd, _, hd2⟩ := DataW.trod_int Tryd.underlying3 h4
      obtain ⟨B, r, cap', hj, q1, q2, q3, q4⟩ := meths_of_trod h5 hs5
      simp at ha hb hc hd hi hj
      exact ⟨⟨a.data.toList, b.data.toList, A, cap, l, c, d, B, cap', r⟩, by rw [ha, hb, hc, hd, hi, hj, (str_bs a ha2).1, (str_bs b hb2).1]; rfl,
        ⟨(str_bs a ha2).2, (str_bs b hb2).2, k1, k2, k4, k3, q1, q2, q4, q3, i64_wf hc2, i64_wf hd2⟩⟩
end

set_option maxRecDepth 100000 in
/-- A class that comes in as an argument. -/
theorem open_class {H : Type} {enc : TypeId × Value → H} {W : World} {base : Nat} {v : Value} {d : DataW H} {p : List MemPlace} (hv : Value.okWide Tryd.prog W .any base 47 v)
    (h : DataW.Trod enc Tryd.prog W 0 (fun _ => true) true 47 v d p) (hs : Small 47 d) : ∃ c : ClassL, v = c.v ∧ c.fit W := by
  obtain ⟨fuel, hf⟩ := h
  obtain ⟨c, hc, hfit⟩ := class_of_trod hf hs
  refine ⟨c, ?_, hfit⟩
  obtain ⟨cs, rfl, hlen⟩ := okWide_struct Tryd.underlying47 hv
  unfold ClassL.v
  simp [Value.cells] at hc
  rw [hc]
end Go.Proofs.YtjjdlgjofjfgmaaDoor
