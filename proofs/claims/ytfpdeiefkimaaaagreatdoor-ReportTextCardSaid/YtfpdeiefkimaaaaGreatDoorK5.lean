/-
  Package code, walked: specs.
-/
import Derived.Deep.WholeRow
import Derived.Test.YtfpdeiefkimaaaaGreatDoorK1
import Derived.Test.YtfpdeiefkimaaaaGreatDoorK2
set_option linter.unusedSimpArgs false
set_option linter.unusedVariables false
namespace Go.Proofs.YtfpdeiefkimaaaaGreatDoor
open Go.RowKit

theorem infoSpecs : (Tryz.prog.info? 138).map (·.size) = some 82 := by kernel_rfl
theorem sizeSpecs : (Tryz.prog.info? 138).map (fun i => i.zero.map (·.cells.size)) = some (some 82) := by kernel_rfl
/-- Every instruction's word and kind of operand, by its number. -/
def specT : List (List UInt8 × Nat) := [([], 0), ([105, 99, 111, 110, 115, 116], 1), ([105, 108, 111, 97, 100], 2), ([105, 115, 116, 111, 114, 101], 2), ([97, 108, 111, 97, 100], 2), ([97, 115, 116, 111, 114, 101], 2), ([110, 117, 108, 108], 0), ([105, 97, 100, 100], 0), ([105, 115, 117, 98], 0), ([105, 109, 117, 108], 0), ([105, 100, 105, 118], 0), ([103, 111, 116, 111], 3), ([105, 102, 101, 113], 3), ([105, 102, 110, 101], 3), ([105, 102, 108, 116], 3), ([105, 102, 99, 109, 112, 101, 113], 3), ([105, 102, 99, 109, 112, 108, 116], 3), ([105, 102, 97, 99, 109, 112, 101, 113], 3), ([105, 102, 110, 117, 108, 108], 3), ([112, 111, 112], 0), ([100, 117, 112], 0), ([115, 119, 97, 112], 0), ([110, 101, 119], 4), ([110, 101, 119, 97, 114, 114, 97, 121], 6), ([109, 117, 108, 116, 105, 110, 101, 119], 7), ([97, 114, 114, 97, 121, 108, 101, 110, 103, 116, 104], 0), ([105, 97, 108, 111, 97, 100], 0), ([105, 97, 115, 116, 111, 114, 101], 0), ([97, 97, 108, 111, 97, 100], 0), ([97, 97, 115, 116, 111, 114, 101], 0), ([99, 104, 101, 99, 107, 99, 97, 115, 116], 5), ([105, 110, 115, 116, 97, 110, 99, 101, 111, 102], 5), ([105, 110, 118, 111, 107, 101, 118, 105, 114, 116, 117, 97, 108], 8), ([105, 110, 118, 111, 107, 101, 105, 110, 116, 101, 114, 102, 97, 99, 101], 8), ([105, 110, 118, 111, 107, 101, 115, 112, 101, 99, 105, 97, 108], 8), ([105, 110, 118, 111, 107, 101, 115, 116, 97, 116, 105, 99], 8), ([105, 114, 101, 116, 117, 114, 110], 0), ([97, 114, 101, 116, 117, 114, 110], 0), ([114, 101, 116, 117, 114, 110], 0), ([112, 114, 105, 110, 116], 0), ([112, 114, 105, 110, 116, 99, 108, 97, 115, 115], 0)]
def specCells : Array Value := (specT.flatMap fun p => [Value.string (bs p.1), Value.int .i64 p.2]).toArray
set_option maxRecDepth 100000 in
set_option maxHeartbeats 8000000 in
theorem specs_any (w : World) : Calls Tryz.prog 91 #[] w fun e w' => e = .returned (.agg specCells) ∧ Upd w w' [] := by
  have hi := infoSpecs
  go_enter Tryz.func91, Tryz.ntmps91
  go_wp2
  rw [run_storeCells_new _ _ _ _ (by rw [infoSpecs]; kernel_rfl) (by kernel_rfl) (by kernel_rfl)]
  go_wp2
  have e : ∀ cs : Array Value, cs = specCells → Blk (w.alloc (.cells cs 138)) w.heap.size 138 specCells := by
    rintro cs rfl
    exact Blk.new _ _ _
  refine bodyPost_ret (v := .agg specCells) ?_ rfl ⟨rfl, (Upd.refl _ _).alloc _⟩
  exact results_cell_row Tryz.results91 _ _ w.heap.size 138 specCells (0, 0) (.array 41 137) rfl (e _ (by kernel_rfl)) (by kernel_rfl) rfl (by rw [infoSpecs]; kernel_rfl)
end Go.Proofs.YtfpdeiefkimaaaaGreatDoor
/-
  Package code, walked: known, Word, Operand.
-/
set_option linter.unusedSimpArgs false
set_option linter.unusedVariables false
namespace Go.Proofs.YtfpdeiefkimaaaaGreatDoor
open Go.RowKit

/-- The word and the kind of operand of an instruction. -/
def wordL (op : Int) : List UInt8 := (specT.getD op.toNat ([], 0)).1
def kindL (op : Int) : Int := if 1 ≤ op ∧ op ≤ 40 then ((specT.getD op.toNat ([], 0)).2 : Nat) else -1
def knownB (op : Int) : Bool := decide (1 ≤ op ∧ op ≤ 40)

theorem flat_extract (a b : List UInt8 × Nat → Value) : ∀ (L : List (List UInt8 × Nat)) (n : Nat), n < L.length →
    (L.flatMap fun p => [a p, b p]).toArray.extract (n * 2) (n * 2 + 2) = #[a (L.getD n ([], 0)), b (L.getD n ([], 0))] := by
  intro L
  induction L with
  | nil => intro n h; simp at h
  | cons p t ih =>
    intro n h
    cases n with
    | zero => simp
    | succ n =>
      have := ih n (by simpa using h)
      simp only [List.extract_toArray, List.flatMap_cons] at this ⊢
      rw [show (n + 1) * 2 = n * 2 + 2 by omega]
      simpa [List.drop_append, Nat.add_sub_cancel] using this

theorem run_spec (op : Int) (h0 : 0 ≤ op) (h1 : op ≤ 40) (w : World) :
    (Instr.index 138 (.agg specCells) (.int .i64 op)).run Tryz.prog w = .ok (.agg #[.string (bs (wordL op)), .int .i64 ((specT.getD op.toNat ([], 0)).2 : Nat)]) w := by
  have hx : specCells.extract (op.toNat * 2) (op.toNat * 2 + 2) = #[.string (bs (wordL op)), .int .i64 ((specT.getD op.toNat ([], 0)).2 : Nat)] :=
    flat_extract (fun p => Value.string (bs p.1)) (fun p => Value.int .i64 p.2) specT op.toNat (by show op.toNat < 41; omega)
  have hs : ∀ w, (sizeOf 137).run Tryz.prog w = .ok 2 w := fun w => by kernel_rfl
  have ha : ∀ w, (isAgg 137).run Tryz.prog w = .ok true w := fun w => by kernel_rfl
  simp only [Instr.index, asIntOf, Sem.run_bind, Sem.run_pure, Result.andThen, run_underlying (Tryz.underlying138)]
  rw [if_pos ⟨h0, by omega⟩]
  simp [part, Sem.run_bind, Result.andThen, hs, ha, hx]

/-- The table, asked at one place. -/
theorem specs_at (op : Int) (h0 : 0 ≤ op) (h1 : op ≤ 40) (w : World) : Calls Tryz.prog 91 #[] w fun e w' => ∃ S, e = .returned (.agg S) ∧
    (∀ w, (Instr.index 138 (.agg S) (.int .i64 op)).run Tryz.prog w = .ok (.agg #[.string (bs (wordL op)), .int .i64 ((specT.getD op.toNat ([], 0)).2 : Nat)]) w) ∧ Upd w w' [] :=
  (specs_any w).mono fun _ _ h => ⟨specCells, h.1, run_spec op h0 h1, h.2⟩

theorem field_spec0 (a b : Value) (w : World) : (Instr.field 137 (.agg #[a, b]) 0).run Tryz.prog w = .ok a w := by kernel_rfl
theorem field_spec1 (a b : Value) (w : World) : (Instr.field 137 (.agg #[a, b]) 1).run Tryz.prog w = .ok b w := by kernel_rfl

theorem known_any (op : Int) (w : World) : Calls Tryz.prog 147 #[.int .i64 op] w fun e w' => e = .returned (.bool (knownB op)) ∧ Upd w w' [] := by
  have Hs := hid (specs_any w)
  by_cases h : 1 ≤ op
  · go_enter Tryz.func147, Tryz.ntmps147
    go_wp2_with fail
    refine Hs.out.mono ?_
    rintro e w1 ⟨rfl, hU⟩
    go_wp2
    go_ret
    exact ⟨bool_ret (by unfold knownB; rw [decide_eq_decide]; omega), hU⟩
  · go_enter Tryz.func147, Tryz.ntmps147
    go_wp2
    go_ret
    exact ⟨bool_ret (by unfold knownB; rw [eq_comm, decide_eq_false_iff_not]; omega), Upd.refl _ _⟩

theorem knownB_yes {op : Int} (h : 1 ≤ op ∧ op ≤ 40) : knownB op = true := by unfold knownB; exact decide_eq_true h
theorem knownB_no {op : Int} (h : ¬ (1 ≤ op ∧ op ≤ 40)) : knownB op = false := by unfold knownB; exact decide_eq_false h

set_option maxRecDepth 100000 in
theorem operand_any (op : Int) (w : World) : Calls Tryz.prog 92 #[.int .i64 op] w fun e w' => e = .returned (.int .i64 (kindL op)) ∧ Upd w w' [] := by
  have Hk := hid (known_any op w)
  by_cases h : 1 ≤ op ∧ op ≤ 40
  · rw [knownB_yes h] at Hk
    have Hs := fun w => hid (specs_at op (by omega) h.2 w)
    have hk : kindL op = ((specT.getD op.toNat ([], 0)).2 : Nat) := by unfold kindL; rw [if_pos h]
    rw [hk]
    clear hk h
    generalize (specT.getD op.toNat ([], 0)).2 = k at Hs
    generalize wordL op = wd at Hs
    go_enter Tryz.func92, Tryz.ntmps92
    go_wp2_with fail
    refine Hk.out.mono ?_
    rintro e w1 ⟨rfl, hU⟩
    go_wp2_with fail
    refine (Hs _).out.mono ?_
    rintro e w2 ⟨S, rfl, hr, hU2⟩
    have hf := field_spec1
    go_wp2
    go_ret
    exact ⟨rfl, hU.trans hU2⟩
  · rw [knownB_no h] at Hk
    have hk : kindL op = -1 := by unfold kindL; rw [if_neg h]
    rw [hk]
    clear hk h
    go_enter Tryz.func92, Tryz.ntmps92
    go_wp2_with fail
    refine Hk.out.mono ?_
    rintro e w1 ⟨rfl, hU⟩
    go_wp2
    go_ret
    exact ⟨rfl, hU⟩

/-- The word of an instruction and the error. -/
def wordPost (op : Int) (w : World) (e : Ending) (w' : World) : Prop :=
  (e = if knownB op then .returned (.tuple #[.string (bs (wordL op)), .int .i64 0]) else .returned (.tuple #[.string (bs []), .int .i64 2])) ∧ Upd w w' []
end Go.Proofs.YtfpdeiefkimaaaaGreatDoor
/-
  Package code, walked: within, RefCheck, RefText.
-/
set_option linter.unusedSimpArgs false
set_option linter.unusedVariables false
namespace Go.Proofs.YtfpdeiefkimaaaaGreatDoor
open Go.RowKit

/-- What a call that only makes new memory leaves, as rules of the walk. -/
theorem Upd.cells {w w' : World} (h : Upd w w' []) : (∀ b o, b < w.heap.size → w'.cell? ⟨b, o, none⟩ = w.cell? ⟨b, o, none⟩) ∧ (∀ b o, b < w.heap.size → w'.frozen? ⟨b, o, none⟩ = w.frozen? ⟨b, o, none⟩) ∧ w.heap.size ≤ w'.heap.size :=
  ⟨fun b o hb => World.cell?_of_block (h.block b hb (by simp)), fun b o hb => h.below.frozen (p := ⟨b, o, none⟩) hb, h.size⟩

/-- Does n lie from lo to hi? -/
def withinB (lo hi n : Int) : Bool := decide (lo ≤ n ∧ n ≤ hi)
theorem within_any (n lo hi : Int) (w : World) : Calls Tryz.prog 174 #[.int .i64 n, .int .i64 lo, .int .i64 hi] w fun e w' => e = .returned (.bool (withinB lo hi n)) ∧ w = w' := by
  by_cases h : lo ≤ n
  · go_enter Tryz.func174, Tryz.ntmps174
    go_wp2
    go_ret
    exact ⟨bool_ret (by unfold withinB; rw [decide_eq_decide]; omega), rfl⟩
  · go_enter Tryz.func174, Tryz.ntmps174
    go_wp2
    go_ret
    exact ⟨bool_ret (by unfold withinB; symm; apply decide_eq_false; omega), rfl⟩

/-- A reference, and whether it is sound. -/
structure RefL where
  ifc : Bool
  cls : List UInt8
  nm : List UInt8
  ds : List UInt8
  deriving DecidableEq
def RefL.v (r : RefL) : Value := .agg #[.bool r.ifc, .string (bs r.cls), .string (bs r.nm), .string (bs r.ds)]
def RefL.fit (r : RefL) : Prop := r.cls.length ≤ 9223372036854775807 ∧ r.nm.length ≤ 9223372036854775807 ∧ r.ds.length ≤ 9223372036854775807
def RefL.ok (r : RefL) : Bool := decide ((parseRefL r.cls).2.2 = 0) && decide ((descL r.ds).2 = 0) && memberB r.nm
def errIf (b : Bool) : Int := if b then 0 else 1
def refPost (r : RefL) (w : World) (e : Ending) (w' : World) : Prop := e = .returned (.int .i64 (errIf r.ok)) ∧ Upd w w' []

set_option maxHeartbeats 1000000 in
theorem refCheck_any (r : RefL) (w : World) (hr : r.fit) (hm : MaxLenAt w) : Calls Tryz.prog 148 #[r.v] w (refPost r w) := by
  obtain ⟨ifc, cls, nm, ds⟩ := r
  obtain ⟨h1, h2, h3⟩ := hr
  simp only at h1 h2 h3
  have h2s : (bs nm).size ≤ 9223372036854775807 := by rw [bs_size]; omega
  have hx : (RefL.mk ifc cls nm ds).ok = (decide ((parseRefL cls).2.2 = 0) && decide ((descL ds).2 = 0) && memberB nm) := rfl
  obtain ⟨x, ex⟩ : ∃ x, (RefL.mk ifc cls nm ds).ok = x := ⟨_, rfl⟩
  unfold refPost RefL.v
  rw [ex]
  rw [ex] at hx
  clear ex
  have Ha := fun w hm => hid (parseRef_any cls w (by omega) hm)
  have Hb := fun w hm => hid (parseDesc_any ds w (by omega) hm)
  have Hc := fun w => hid (member_any (bs nm) w h2s)
  simp only [bs_data] at Hc
  generalize parseRefL cls = p at Ha hx
  generalize descL ds = q at Hb hx
  generalize memberB nm = m at Hc hx
  obtain ⟨pn, pl, pe⟩ := p
  obtain ⟨qn, qe⟩ := q
  simp only at hx
  have Hx := hid hx
  clear hx h1 h2 h3 h2s
  have hU0 : Upd w (w.alloc (.cells #[.bool ifc, .string (bs cls), .string (bs nm), .string (bs ds)] 88)) [] := (Upd.refl _ _).alloc _
  have hm0 := hm.upd hU0 (by simp)
  go_enter Tryz.func148, Tryz.ntmps148
  go_wp2_with fail
  refine (Ha _ hm0).out.mono ?_
  rintro e w1 ⟨rfl, hU1⟩
  obtain ⟨hc1, hf1, hz1⟩ := hU1.cells
  have hz1' : w.heap.size < w1.heap.size := by simp at hz1; omega
  have hU2 := (hU0.trans hU1).alloc (.cells #[.int .i64 pn, .string (bs pl)] 179)
  have hm2 := hm.upd hU2 (by simp)
  unfold ty
  go_wp2_with fail
  refine (Hb _ hm2).out.mono ?_
  rintro e w2 ⟨⟨A, cap, vd, d, nm', rfl⟩, hU3⟩
  obtain ⟨hc2, hf2, hz2⟩ := hU3.cells
  have hz2' : w1.heap.size < w2.heap.size := by simp at hz2; omega
  have hz3 : w.heap.size < w2.heap.size := by omega
  have hU4 := (hU2.trans hU3).alloc (.cells #[.slice A qn cap, .bool vd, .int .i64 d, .string (bs nm')] 181)
  clear hU0 hU1 hU2 hU3 hm0 hm2 hm
  cases m
  all_goals
    go_wp2_with (refine (Hc _).out.mono ?_; rintro e w3 ⟨rfl, rfl⟩)
    all_goals
      go_ret
      refine ⟨?_, hU4⟩
      rw [Hx.out]
      simp_all [errIf]

theorem parseL_le {l : List UInt8} (h : (parseL l).2.2 = 0) : l.length ≤ 2000 := by
  unfold parseL at h
  split at h
  · simp at h
  · omega
theorem validB_le {l : List UInt8} (h : validB l = true) : l.length ≤ 60 := by
  unfold validB at h
  simp at h
  exact h.1
theorem memberB_le {l : List UInt8} (h : memberB l = true) : l.length ≤ 60 := by
  unfold memberB at h
  simp [initB] at h
  rcases h with h | h
  · rw [of_decide_eq_true h]; decide
  · exact h.1
theorem parseRefL_le {l : List UInt8} (h : (parseRefL l).2.2 = 0) : l.length ≤ 2000 := by
  unfold parseRefL at h
  split at h
  · exact parseL_le h
  · split at h
    · simp at h
    · omega
theorem descL_le {l : List UInt8} (h : (descL l).2 = 0) : l.length ≤ 2000 := by
  unfold descL at h
  split at h
  · simp at h
  · omega
theorem RefL.ok_le {r : RefL} (h : r.ok = true) : r.cls.length ≤ 2000 ∧ r.nm.length ≤ 60 ∧ r.ds.length ≤ 2000 := by
  unfold RefL.ok at h
  simp at h
  exact ⟨parseRefL_le h.1.1, memberB_le h.2, descL_le h.1.2⟩

theorem bs_append (a b : List UInt8) : bs a ++ bs b = bs (a ++ b) := by
  apply ByteArray.ext
  simp [bs, ByteArray.data_append]

/-- The text of a reference and the error. -/
def RefL.text (r : RefL) : List UInt8 := r.cls ++ (if r.ifc then [58] else [46]) ++ r.nm ++ r.ds
def refTextPost (r : RefL) (w : World) (e : Ending) (w' : World) : Prop :=
  e = .returned (.tuple #[.string (bs (if r.ok then r.text else [])), .int .i64 (errIf r.ok)]) ∧ Upd w w' []

set_option maxHeartbeats 1000000 in
theorem refText_any (r : RefL) (w : World) (hr : r.fit) (hm : MaxLenAt w) : Calls Tryz.prog 93 #[r.v] w (refTextPost r w) := by
  have Hc := fun w hm => hid (refCheck_any r w hr hm)
  have hle := fun h => RefL.ok_le (r := r) h
  have hfin : ∀ w', Upd w w' [] → refTextPost r w (.returned (.tuple #[.string (bs (if r.ok then r.text else [])), .int .i64 (errIf r.ok)])) w' := fun w' h => ⟨rfl, h⟩
  obtain ⟨x, ex⟩ : ∃ x, r.ok = x := ⟨_, rfl⟩
  unfold refPost at Hc
  rw [ex] at Hc hle hfin
  have Hfin := hid hfin
  clear ex hfin
  have hU0 : Upd w (w.alloc (.cells #[.bool r.ifc, .string (bs r.cls), .string (bs r.nm), .string (bs r.ds)] 88)) [] := (Upd.refl _ _).alloc _
  have hm0 := hm.upd hU0 (by simp)
  unfold RefL.v at Hc ⊢
  cases x with
  | false =>
    clear hle
    go_enter Tryz.func93, Tryz.ntmps93
    go_wp2_with fail
    refine (Hc _ hm0).out.mono ?_
    rintro e w1 ⟨rfl, hU1⟩
    have hU2 := hU0.trans hU1
    simp only [errIf]
    go_wp2
    go_ret2
    exact Hfin.out _ hU2
  | true =>
    obtain ⟨l1, l2, l3⟩ := hle rfl
    have s1 : (bs r.cls).size ≤ 2000 := by rw [bs_size]; exact l1
    have s2 : (bs r.nm).size ≤ 60 := by rw [bs_size]; exact l2
    have s3 : (bs r.ds).size ≤ 2000 := by rw [bs_size]; exact l3
    clear hle l1 l2 l3
    cases hi : r.ifc
    all_goals
      rw [hi] at Hc hU0 hm0
      have Hi := hid hi
      clear hi
      go_enter Tryz.func93, Tryz.ntmps93
      go_wp2_with fail
      refine (Hc _ hm0).out.mono ?_
      rintro e w1 ⟨rfl, hU1⟩
      obtain ⟨hc1, hf1, hz1⟩ := hU1.cells
      have hz1' : w.heap.size < w1.heap.size := by simp at hz1; omega
      have hU2 := hU0.trans hU1
      simp only [errIf]
      go_wp2
      go_ret2
      have hq := Hfin.out _ hU2
      first | rw [show (⟨#[46]⟩ : ByteArray) = bs [46] from rfl] | rw [show (⟨#[58]⟩ : ByteArray) = bs [58] from rfl]
      rw [bs_append, bs_append, bs_append]
      simpa [RefL.text, Hi.out, errIf] using hq
end Go.Proofs.YtfpdeiefkimaaaaGreatDoor
/-
  Package code, walked: operand.
-/
set_option linter.unusedSimpArgs false
set_option linter.unusedVariables false
namespace Go.Proofs.YtfpdeiefkimaaaaGreatDoor
open Go.RowKit

/-- An instruction. -/
structure InstL where
  op : Int
  n : Int
  ty : List UInt8
  ref : RefL
  deriving DecidableEq
def InstL.cells (i : InstL) : Array Value := #[.int .i64 i.op, .int .i64 i.n, .string (bs i.ty), .bool i.ref.ifc, .string (bs i.ref.cls), .string (bs i.ref.nm), .string (bs i.ref.ds)]
def InstL.v (i : InstL) : Value := .agg i.cells
def InstL.fit (i : InstL) : Prop := i.ty.length ≤ 9223372036854775807 ∧ i.ref.fit

/-- Is what the operand has fine? -/
def InstL.fine (i : InstL) : Bool :=
  if kindL i.op = 0 then true
  else if kindL i.op = 1 then withinB (-2147483648) 2147483647 i.n
  else if kindL i.op = 2 then withinB 0 39 i.n
  else if kindL i.op = 3 then withinB 0 199 i.n
  else if kindL i.op = 4 then validB i.ty
  else if kindL i.op = 5 then decide ((parseRefL i.ty).2.2 = 0)
  else if kindL i.op = 6 then decide ((parseL i.ty).2.2 = 0) && decide ((parseL i.ty).1 < 255)
  else if kindL i.op = 7 then decide ((parseRefL i.ty).2.2 = 0) && withinB 1 (parseRefL i.ty).1 i.n
  else if kindL i.op = 8 then i.ref.ok
  else false

theorem spec_kinds : ∀ n : Nat, (specT.getD n ([], 0)).2 ≤ 8 := by
  intro n
  by_cases h : n < 41
  · have : ∀ n : Fin 41, (specT.getD n.val ([], 0)).2 ≤ 8 := by decide
    exact this ⟨n, h⟩
  · have hl : specT.length = 41 := rfl
    rw [List.getD_eq_getElem?_getD, List.getElem?_eq_none (by omega)]
    decide
theorem kindL_cases (op : Int) : kindL op = -1 ∨ kindL op = 0 ∨ kindL op = 1 ∨ kindL op = 2 ∨ kindL op = 3 ∨ kindL op = 4 ∨ kindL op = 5 ∨ kindL op = 6 ∨ kindL op = 7 ∨ kindL op = 8 := by
  unfold kindL
  have := spec_kinds op.toNat
  split <;> omega

def finePost (i : InstL) (w : World) (e : Ending) (w' : World) : Prop := e = .returned (.bool i.fine) ∧ Upd w w' []

set_option maxHeartbeats 2000000 in
set_option maxRecDepth 100000 in
theorem operandIn_any (i : InstL) (w : World) (hi : i.fit) (hm : MaxLenAt w) : Calls Tryz.prog 146 #[i.v] w (finePost i w) := by
  obtain ⟨op, n, tx, r⟩ := i
  obtain ⟨h1, h2⟩ := hi
  simp only at h1 h2
  have h1s : (bs tx).size ≤ 9223372036854775807 := by rw [bs_size]; omega
  have hU0 : Upd w (w.alloc (.cells #[.int .i64 op, .int .i64 n, .string (bs tx), .bool r.ifc, .string (bs r.cls), .string (bs r.nm), .string (bs r.ds)] 90)) [] := (Upd.refl _ _).alloc _
  have hm0 := hm.upd hU0 (by simp)
  have Hop := hid (operand_any op (w.alloc (.cells #[.int .i64 op, .int .i64 n, .string (bs tx), .bool r.ifc, .string (bs r.cls), .string (bs r.nm), .string (bs r.ds)] 90)))
  unfold finePost InstL.v InstL.cells
  simp only
  rcases kindL_cases op with hk | hk | hk | hk | hk | hk | hk | hk | hk | hk
  · have hf : ∀ b, b = (false) → InstL.fine ⟨op, n, tx, r⟩ = b := fun b hb => by unfold InstL.fine; simp only [hk]; simp [hb]
    rw [hk] at Hop
    rw [hf _ rfl]
    clear hf
    skip
    go_enter Tryz.func146, Tryz.ntmps146
    go_wp2_with fail
    refine Hop.out.mono ?_
    rintro e w1 ⟨rfl, hU1⟩
    obtain ⟨hc1, hf1, hz1⟩ := hU1.cells
    have hz1' : w.heap.size < w1.heap.size := by simp at hz1; omega
    have hU2 := hU0.trans hU1
    have hm2 := hm.upd hU2 (by simp)
    go_wp2
    go_ret
    exact ⟨rfl, hU2⟩
  · have hf : ∀ b, b = (true) → InstL.fine ⟨op, n, tx, r⟩ = b := fun b hb => by unfold InstL.fine; simp only [hk]; simp [hb]
    rw [hk] at Hop
    rw [hf _ rfl]
    clear hf
    skip
    go_enter Tryz.func146, Tryz.ntmps146
    go_wp2_with fail
    refine Hop.out.mono ?_
    rintro e w1 ⟨rfl, hU1⟩
    obtain ⟨hc1, hf1, hz1⟩ := hU1.cells
    have hz1' : w.heap.size < w1.heap.size := by simp at hz1; omega
    have hU2 := hU0.trans hU1
    have hm2 := hm.upd hU2 (by simp)
    go_wp2
    go_ret
    exact ⟨rfl, hU2⟩
  · have hf : ∀ b, b = (withinB (-2147483648) 2147483647 n) → InstL.fine ⟨op, n, tx, r⟩ = b := fun b hb => by unfold InstL.fine; simp only [hk]; simp [hb]
    rw [hk] at Hop
    rw [hf _ rfl]
    clear hf
    skip
    go_enter Tryz.func146, Tryz.ntmps146
    go_wp2_with fail
    refine Hop.out.mono ?_
    rintro e w1 ⟨rfl, hU1⟩
    obtain ⟨hc1, hf1, hz1⟩ := hU1.cells
    have hz1' : w.heap.size < w1.heap.size := by simp at hz1; omega
    have hU2 := hU0.trans hU1
    have hm2 := hm.upd hU2 (by simp)
    go_wp2_with fail
    refine (within_any _ _ _ _).mono ?_
    rintro e w2 ⟨rfl, rfl⟩
    go_wp2
    go_ret
    exact ⟨rfl, hU2⟩
  · have hf : ∀ b, b = (withinB 0 39 n) → InstL.fine ⟨op, n, tx, r⟩ = b := fun b hb => by unfold InstL.fine; simp only [hk]; simp [hb]
    rw [hk] at Hop
    rw [hf _ rfl]
    clear hf
    skip
    go_enter Tryz.func146, Tryz.ntmps146
    go_wp2_with fail
    refine Hop.out.mono ?_
    rintro e w1 ⟨rfl, hU1⟩
    obtain ⟨hc1, hf1, hz1⟩ := hU1.cells
    have hz1' : w.heap.size < w1.heap.size := by simp at hz1; omega
    have hU2 := hU0.trans hU1
    have hm2 := hm.upd hU2 (by simp)
    go_wp2_with fail
    refine (within_any _ _ _ _).mono ?_
    rintro e w2 ⟨rfl, rfl⟩
    go_wp2
    go_ret
    exact ⟨rfl, hU2⟩
  · have hf : ∀ b, b = (withinB 0 199 n) → InstL.fine ⟨op, n, tx, r⟩ = b := fun b hb => by unfold InstL.fine; simp only [hk]; simp [hb]
    rw [hk] at Hop
    rw [hf _ rfl]
    clear hf
    skip
    go_enter Tryz.func146, Tryz.ntmps146
    go_wp2_with fail
    refine Hop.out.mono ?_
    rintro e w1 ⟨rfl, hU1⟩
    obtain ⟨hc1, hf1, hz1⟩ := hU1.cells
    have hz1' : w.heap.size < w1.heap.size := by simp at hz1; omega
    have hU2 := hU0.trans hU1
    have hm2 := hm.upd hU2 (by simp)
    go_wp2_with fail
    refine (within_any _ _ _ _).mono ?_
    rintro e w2 ⟨rfl, rfl⟩
    go_wp2
    go_ret
    exact ⟨rfl, hU2⟩
  · have hf : ∀ b, b = (validB tx) → InstL.fine ⟨op, n, tx, r⟩ = b := fun b hb => by unfold InstL.fine; simp only [hk]; simp [hb]
    rw [hk] at Hop
    rw [hf _ rfl]
    clear hf
    have Hc := fun w hm => hid (valid_any (bs tx) w h1s hm)
    simp only [bs_data] at Hc
    go_enter Tryz.func146, Tryz.ntmps146
    go_wp2_with fail
    refine Hop.out.mono ?_
    rintro e w1 ⟨rfl, hU1⟩
    obtain ⟨hc1, hf1, hz1⟩ := hU1.cells
    have hz1' : w.heap.size < w1.heap.size := by simp at hz1; omega
    have hU2 := hU0.trans hU1
    have hm2 := hm.upd hU2 (by simp)
    go_wp2_with fail
    refine ((Hc _ hm2).out).mono ?_
    rintro e w2 ⟨rfl, hU3⟩
    go_wp2
    go_ret
    exact ⟨rfl, hU2.trans hU3⟩
  · have hf : ∀ b, b = (decide ((parseRefL tx).2.2 = 0)) → InstL.fine ⟨op, n, tx, r⟩ = b := fun b hb => by unfold InstL.fine; simp only [hk]; simp [hb]
    rw [hk] at Hop
    rw [hf _ rfl]
    clear hf
    have Ha := fun w hm => hid (parseRef_any tx w (by omega) hm)
    obtain ⟨p, hp⟩ : ∃ p, parseRefL tx = p := ⟨_, rfl⟩
    rw [hp] at Ha ⊢
    obtain ⟨pn, pl, pe⟩ := p
    clear hp
    go_enter Tryz.func146, Tryz.ntmps146
    go_wp2_with fail
    refine Hop.out.mono ?_
    rintro e w1 ⟨rfl, hU1⟩
    obtain ⟨hc1, hf1, hz1⟩ := hU1.cells
    have hz1' : w.heap.size < w1.heap.size := by simp at hz1; omega
    have hU2 := hU0.trans hU1
    have hm2 := hm.upd hU2 (by simp)
    go_wp2_with fail
    refine ((Ha _ hm2).out).mono ?_
    rintro e w2 ⟨rfl, hU3⟩
    obtain ⟨hc2, hf2, hz2⟩ := hU3.cells
    have hz2' : w.heap.size < w2.heap.size := by omega
    have hU4 := (hU2.trans hU3).alloc (.cells #[.int .i64 pn, .string (bs pl)] 179)
    unfold ty
    
    go_wp2
    go_ret
    exact ⟨bool_ret (by first | rfl | simp), hU4⟩
  · have hf : ∀ b, b = (decide ((parseL tx).2.2 = 0) && decide ((parseL tx).1 < 255)) → InstL.fine ⟨op, n, tx, r⟩ = b := fun b hb => by unfold InstL.fine; simp only [hk]; simp [hb]
    rw [hk] at Hop
    rw [hf _ rfl]
    clear hf
    have Ha := fun w hm => hid (parse_any tx w (by omega) hm)
    obtain ⟨p, hp⟩ : ∃ p, parseL tx = p := ⟨_, rfl⟩
    rw [hp] at Ha ⊢
    obtain ⟨pn, pl, pe⟩ := p
    clear hp
    go_enter Tryz.func146, Tryz.ntmps146
    go_wp2_with fail
    refine Hop.out.mono ?_
    rintro e w1 ⟨rfl, hU1⟩
    obtain ⟨hc1, hf1, hz1⟩ := hU1.cells
    have hz1' : w.heap.size < w1.heap.size := by simp at hz1; omega
    have hU2 := hU0.trans hU1
    have hm2 := hm.upd hU2 (by simp)
    go_wp2_with fail
    refine ((Ha _ hm2).out).mono ?_
    rintro e w2 ⟨rfl, hU3⟩
    obtain ⟨hc2, hf2, hz2⟩ := hU3.cells
    have hz2' : w.heap.size < w2.heap.size := by omega
    have hU4 := (hU2.trans hU3).alloc (.cells #[.int .i64 pn, .string (bs pl)] 179)
    unfold ty
    
    go_wp2
    all_goals
      go_ret
      exact ⟨bool_ret (by first | (simp_all; done) | (simp_all; omega)), hU4⟩
  · have hf : ∀ b, b = (decide ((parseRefL tx).2.2 = 0) && withinB 1 (parseRefL tx).1 n) → InstL.fine ⟨op, n, tx, r⟩ = b := fun b hb => by unfold InstL.fine; simp only [hk]; simp [hb]
    rw [hk] at Hop
    rw [hf _ rfl]
    clear hf
    have Ha := fun w hm => hid (parseRef_any tx w (by omega) hm)
    obtain ⟨p, hp⟩ : ∃ p, parseRefL tx = p := ⟨_, rfl⟩
    rw [hp] at Ha ⊢
    obtain ⟨pn, pl, pe⟩ := p
    clear hp
    go_enter Tryz.func146, Tryz.ntmps146
    go_wp2_with fail
    refine Hop.out.mono ?_
    rintro e w1 ⟨rfl, hU1⟩
    obtain ⟨hc1, hf1, hz1⟩ := hU1.cells
    have hz1' : w.heap.size < w1.heap.size := by simp at hz1; omega
    have hU2 := hU0.trans hU1
    have hm2 := hm.upd hU2 (by simp)
    go_wp2_with fail
    refine ((Ha _ hm2).out).mono ?_
    rintro e w2 ⟨rfl, hU3⟩
    obtain ⟨hc2, hf2, hz2⟩ := hU3.cells
    have hz2' : w.heap.size < w2.heap.size := by omega
    have hU4 := (hU2.trans hU3).alloc (.cells #[.int .i64 pn, .string (bs pl)] 179)
    unfold ty
    
    go_wp2_with (refine (within_any _ _ _ _).mono ?_; rintro e w3 ⟨rfl, rfl⟩)
    all_goals
      go_ret
      exact ⟨bool_ret (by simp_all), hU4⟩
  · have hf : ∀ b, b = (r.ok) → InstL.fine ⟨op, n, tx, r⟩ = b := fun b hb => by unfold InstL.fine; simp only [hk]; simp [hb]
    rw [hk] at Hop
    rw [hf _ rfl]
    clear hf
    have Hc := fun w hm => hid (refCheck_any r w h2 hm)
    unfold RefL.v refPost at Hc
    go_enter Tryz.func146, Tryz.ntmps146
    go_wp2_with fail
    refine Hop.out.mono ?_
    rintro e w1 ⟨rfl, hU1⟩
    obtain ⟨hc1, hf1, hz1⟩ := hU1.cells
    have hz1' : w.heap.size < w1.heap.size := by simp at hz1; omega
    have hU2 := hU0.trans hU1
    have hm2 := hm.upd hU2 (by simp)
    go_wp2_with fail
    refine ((Hc _ hm2).out).mono ?_
    rintro e w2 ⟨rfl, hU3⟩
    cases hx : r.ok
    all_goals
      simp only [errIf]
      go_wp2
      go_ret
      exact ⟨bool_ret (by simp [hx]), hU2.trans hU3⟩
end Go.Proofs.YtfpdeiefkimaaaaGreatDoor
/-
  Package code, walked: Check.
-/
set_option linter.unusedSimpArgs false
set_option linter.unusedVariables false
namespace Go.Proofs.YtfpdeiefkimaaaaGreatDoor
open Go.RowKit

theorem bs_beq (a b : List UInt8) : ((bs a).toList == (bs b).toList) = decide (a = b) := by
  rw [bs_toList, bs_toList, Bool.eq_iff_iff]
  simp
theorem eq_inst (i j : InstL) (w : World) : (Op.equalIn 10000 90 i.v j.v).run Tryz.prog w = .ok (decide (i = j)) w := by
  obtain ⟨o1, n1, t1, ⟨a1, c1, m1, d1⟩⟩ := i
  obtain ⟨o2, n2, t2, ⟨a2, c2, m2, d2⟩⟩ := j
  have e : decide (InstL.mk o1 n1 t1 ⟨a1, c1, m1, d1⟩ = InstL.mk o2 n2 t2 ⟨a2, c2, m2, d2⟩) = (decide (o1 = o2) && decide (n1 = n2) && decide (t1 = t2) && decide (a1 = a2) && decide (c1 = c2) && decide (m1 = m2) && decide (d1 = d2)) := by
    rw [Bool.eq_iff_iff]
    simp [and_assoc]
  rw [e]
  clear e
  unfold InstL.v InstL.cells
  simp [go_sem, bs_beq]
  repeat' split
  all_goals simp_all

def noRefL : RefL := ⟨false, [], [], []⟩
/-- The instruction with what its operand has alone. -/
def InstL.bare (i : InstL) : InstL :=
  if kindL i.op = 1 ∨ kindL i.op = 2 ∨ kindL i.op = 3 then ⟨i.op, i.n, [], noRefL⟩
  else if kindL i.op = 4 ∨ kindL i.op = 5 ∨ kindL i.op = 6 then ⟨i.op, 0, i.ty, noRefL⟩
  else if kindL i.op = 7 then ⟨i.op, i.n, i.ty, noRefL⟩
  else if kindL i.op = 8 then ⟨i.op, 0, [], i.ref⟩
  else ⟨i.op, 0, [], noRefL⟩
def InstL.ok (i : InstL) : Bool := decide (i.bare = i) && i.fine
def checkPost (i : InstL) (w : World) (e : Ending) (w' : World) : Prop := e = .returned (.int .i64 (errIf i.ok)) ∧ Upd w w' []

set_option maxHeartbeats 2000000 in
set_option maxRecDepth 100000 in
theorem check_any (i : InstL) (w : World) (hi : i.fit) (hm : MaxLenAt w) : Calls Tryz.prog 90 #[i.v] w (checkPost i w) := by
  obtain ⟨op, n, ty, r⟩ := i
  have hU0 : Upd w (w.alloc (.cells #[.int .i64 op, .int .i64 n, .string (bs ty), .bool r.ifc, .string (bs r.cls), .string (bs r.nm), .string (bs r.ds)] 90)) [] := (Upd.refl _ _).alloc _
  have Hop := fun w => hid (operand_any op w)
  have Hin := fun w hm => hid (operandIn_any ⟨op, n, ty, r⟩ w hi hm)
  have hok : ∀ b c, decide ((InstL.mk op n ty r).bare = ⟨op, n, ty, r⟩) = b → (InstL.mk op n ty r).fine = c → (InstL.mk op n ty r).ok = (b && c) := fun b c h1 h2 => by rw [← h1, ← h2]; rfl
  unfold finePost at Hin
  obtain ⟨c, hc⟩ : ∃ c, (InstL.mk op n ty r).fine = c := ⟨_, rfl⟩
  rw [hc] at Hin
  replace hok := fun b h => hok b c h hc
  clear hc hi
  unfold checkPost
  rcases kindL_cases op with hk | hk | hk | hk | hk | hk | hk | hk | hk | hk
  · have hb : (InstL.mk op n ty r).bare = ⟨op, 0, [], noRefL⟩ := by unfold InstL.bare; simp [hk]
    rw [hb] at hok
    have hE := fun w => eq_inst ⟨op, 0, [], noRefL⟩ ⟨op, n, ty, r⟩ w
    rw [hk] at Hop
    obtain ⟨b, eb⟩ : ∃ b, decide ((⟨op, 0, [], noRefL⟩ : InstL) = ⟨op, n, ty, r⟩) = b := ⟨_, rfl⟩
    rw [eb] at hE
    rw [hok b eb]
    clear hok eb hb hk
    unfold InstL.v InstL.cells at hE Hin ⊢
    simp only [noRefL, bs_nil] at hE
    go_enter Tryz.func90, Tryz.ntmps90
    go_wp2_with fail
    refine (Hop _).out.mono ?_
    rintro e w1 ⟨rfl, hU1⟩
    obtain ⟨hc1, hf1, hz1⟩ := hU1.cells
    have hz1' : w.heap.size + 1 < w1.heap.size := by simp at hz1; omega
    have hz2' : w.heap.size < w1.heap.size := by omega
    have hU2 := (hU0.alloc (.cells #[.int .i64 op, .int .i64 0, .string ⟨#[]⟩, .bool false, .string ⟨#[]⟩, .string ⟨#[]⟩, .string ⟨#[]⟩] 90)).trans hU1
    cases b
    · go_wp2
      go_ret
      exact ⟨rfl, hU2⟩
    · go_wp2_with fail
      refine (Hin _ (hm.upd hU2 (by simp))).out.mono ?_
      rintro e w2 ⟨rfl, hU3⟩
      cases c
      all_goals
        go_wp2
        go_ret
        exact ⟨rfl, hU2.trans hU3⟩
  · have hb : (InstL.mk op n ty r).bare = ⟨op, 0, [], noRefL⟩ := by unfold InstL.bare; simp [hk]
    rw [hb] at hok
    have hE := fun w => eq_inst ⟨op, 0, [], noRefL⟩ ⟨op, n, ty, r⟩ w
    rw [hk] at Hop
    obtain ⟨b, eb⟩ : ∃ b, decide ((⟨op, 0, [], noRefL⟩ : InstL) = ⟨op, n, ty, r⟩) = b := ⟨_, rfl⟩
    rw [eb] at hE
    rw [hok b eb]
    clear hok eb hb hk
    unfold InstL.v InstL.cells at hE Hin ⊢
    simp only [noRefL, bs_nil] at hE
    go_enter Tryz.func90, Tryz.ntmps90
    go_wp2_with fail
    refine (Hop _).out.mono ?_
    rintro e w1 ⟨rfl, hU1⟩
    obtain ⟨hc1, hf1, hz1⟩ := hU1.cells
    have hz1' : w.heap.size + 1 < w1.heap.size := by simp at hz1; omega
    have hz2' : w.heap.size < w1.heap.size := by omega
    have hU2 := (hU0.alloc (.cells #[.int .i64 op, .int .i64 0, .string ⟨#[]⟩, .bool false, .string ⟨#[]⟩, .string ⟨#[]⟩, .string ⟨#[]⟩] 90)).trans hU1
    cases b
    · go_wp2
      go_ret
      exact ⟨rfl, hU2⟩
    · go_wp2_with fail
      refine (Hin _ (hm.upd hU2 (by simp))).out.mono ?_
      rintro e w2 ⟨rfl, hU3⟩
      cases c
      all_goals
        go_wp2
        go_ret
        exact ⟨rfl, hU2.trans hU3⟩
  · have hb : (InstL.mk op n ty r).bare = ⟨op, n, [], noRefL⟩ := by unfold InstL.bare; simp [hk]
    rw [hb] at hok
    have hE := fun w => eq_inst ⟨op, n, [], noRefL⟩ ⟨op, n, ty, r⟩ w
    rw [hk] at Hop
    obtain ⟨b, eb⟩ : ∃ b, decide ((⟨op, n, [], noRefL⟩ : InstL) = ⟨op, n, ty, r⟩) = b := ⟨_, rfl⟩
    rw [eb] at hE
    rw [hok b eb]
    clear hok eb hb hk
    unfold InstL.v InstL.cells at hE Hin ⊢
    simp only [noRefL, bs_nil] at hE
    go_enter Tryz.func90, Tryz.ntmps90
    go_wp2_with fail
    refine (Hop _).out.mono ?_
    rintro e w1 ⟨rfl, hU1⟩
    obtain ⟨hc1, hf1, hz1⟩ := hU1.cells
    have hz1' : w.heap.size + 1 < w1.heap.size := by simp at hz1; omega
    have hz2' : w.heap.size < w1.heap.size := by omega
    have hU2 := (hU0.alloc (.cells #[.int .i64 op, .int .i64 0, .string ⟨#[]⟩, .bool false, .string ⟨#[]⟩, .string ⟨#[]⟩, .string ⟨#[]⟩] 90)).trans hU1
    cases b
    · go_wp2
      go_ret
      exact ⟨rfl, (hU2.setCell (.inr (by simp)) _)⟩
    · go_wp2_with fail
      refine (Hin _ (hm.upd (hU2.setCell (.inr (by simp)) _) (by simp))).out.mono ?_
      rintro e w2 ⟨rfl, hU3⟩
      cases c
      all_goals
        go_wp2
        go_ret
        exact ⟨rfl, (hU2.setCell (.inr (by simp)) _).trans hU3⟩
  · have hb : (InstL.mk op n ty r).bare = ⟨op, n, [], noRefL⟩ := by unfold InstL.bare; simp [hk]
    rw [hb] at hok
    have hE := fun w => eq_inst ⟨op, n, [], noRefL⟩ ⟨op, n, ty, r⟩ w
    rw [hk] at Hop
    obtain ⟨b, eb⟩ : ∃ b, decide ((⟨op, n, [], noRefL⟩ : InstL) = ⟨op, n, ty, r⟩) = b := ⟨_, rfl⟩
    rw [eb] at hE
    rw [hok b eb]
    clear hok eb hb hk
    unfold InstL.v InstL.cells at hE Hin ⊢
    simp only [noRefL, bs_nil] at hE
    go_enter Tryz.func90, Tryz.ntmps90
    go_wp2_with fail
    refine (Hop _).out.mono ?_
    rintro e w1 ⟨rfl, hU1⟩
    obtain ⟨hc1, hf1, hz1⟩ := hU1.cells
    have hz1' : w.heap.size + 1 < w1.heap.size := by simp at hz1; omega
    have hz2' : w.heap.size < w1.heap.size := by omega
    have hU2 := (hU0.alloc (.cells #[.int .i64 op, .int .i64 0, .string ⟨#[]⟩, .bool false, .string ⟨#[]⟩, .string ⟨#[]⟩, .string ⟨#[]⟩] 90)).trans hU1
    cases b
    · go_wp2
      go_ret
      exact ⟨rfl, (hU2.setCell (.inr (by simp)) _)⟩
    · go_wp2_with fail
      refine (Hin _ (hm.upd (hU2.setCell (.inr (by simp)) _) (by simp))).out.mono ?_
      rintro e w2 ⟨rfl, hU3⟩
      cases c
      all_goals
        go_wp2
        go_ret
        exact ⟨rfl, (hU2.setCell (.inr (by simp)) _).trans hU3⟩
  · have hb : (InstL.mk op n ty r).bare = ⟨op, n, [], noRefL⟩ := by unfold InstL.bare; simp [hk]
    rw [hb] at hok
    have hE := fun w => eq_inst ⟨op, n, [], noRefL⟩ ⟨op, n, ty, r⟩ w
    rw [hk] at Hop
    obtain ⟨b, eb⟩ : ∃ b, decide ((⟨op, n, [], noRefL⟩ : InstL) = ⟨op, n, ty, r⟩) = b := ⟨_, rfl⟩
    rw [eb] at hE
    rw [hok b eb]
    clear hok eb hb hk
    unfold InstL.v InstL.cells at hE Hin ⊢
    simp only [noRefL, bs_nil] at hE
    go_enter Tryz.func90, Tryz.ntmps90
    go_wp2_with fail
    refine (Hop _).out.mono ?_
    rintro e w1 ⟨rfl, hU1⟩
    obtain ⟨hc1, hf1, hz1⟩ := hU1.cells
    have hz1' : w.heap.size + 1 < w1.heap.size := by simp at hz1; omega
    have hz2' : w.heap.size < w1.heap.size := by omega
    have hU2 := (hU0.alloc (.cells #[.int .i64 op, .int .i64 0, .string ⟨#[]⟩, .bool false, .string ⟨#[]⟩, .string ⟨#[]⟩, .string ⟨#[]⟩] 90)).trans hU1
    cases b
    · go_wp2
      go_ret
      exact ⟨rfl, (hU2.setCell (.inr (by simp)) _)⟩
    · go_wp2_with fail
      refine (Hin _ (hm.upd (hU2.setCell (.inr (by simp)) _) (by simp))).out.mono ?_
      rintro e w2 ⟨rfl, hU3⟩
      cases c
      all_goals
        go_wp2
        go_ret
        exact ⟨rfl, (hU2.setCell (.inr (by simp)) _).trans hU3⟩
  · have hb : (InstL.mk op n ty r).bare = ⟨op, 0, ty, noRefL⟩ := by unfold InstL.bare; simp [hk]
    rw [hb] at hok
    have hE := fun w => eq_inst ⟨op, 0, ty, noRefL⟩ ⟨op, n, ty, r⟩ w
    rw [hk] at Hop
    obtain ⟨b, eb⟩ : ∃ b, decide ((⟨op, 0, ty, noRefL⟩ : InstL) = ⟨op, n, ty, r⟩) = b := ⟨_, rfl⟩
    rw [eb] at hE
    rw [hok b eb]
    clear hok eb hb hk
    unfold InstL.v InstL.cells at hE Hin ⊢
    simp only [noRefL, bs_nil] at hE
    go_enter Tryz.func90, Tryz.ntmps90
    go_wp2_with fail
    refine (Hop _).out.mono ?_
    rintro e w1 ⟨rfl, hU1⟩
    obtain ⟨hc1, hf1, hz1⟩ := hU1.cells
    have hz1' : w.heap.size + 1 < w1.heap.size := by simp at hz1; omega
    have hz2' : w.heap.size < w1.heap.size := by omega
    have hU2 := (hU0.alloc (.cells #[.int .i64 op, .int .i64 0, .string ⟨#[]⟩, .bool false, .string ⟨#[]⟩, .string ⟨#[]⟩, .string ⟨#[]⟩] 90)).trans hU1
    cases b
    · go_wp2
      go_ret
      exact ⟨rfl, (hU2.setCell (.inr (by simp)) _)⟩
    · go_wp2_with fail
      refine (Hin _ (hm.upd (hU2.setCell (.inr (by simp)) _) (by simp))).out.mono ?_
      rintro e w2 ⟨rfl, hU3⟩
      cases c
      all_goals
        go_wp2
        go_ret
        exact ⟨rfl, (hU2.setCell (.inr (by simp)) _).trans hU3⟩
  · have hb : (InstL.mk op n ty r).bare = ⟨op, 0, ty, noRefL⟩ := by unfold InstL.bare; simp [hk]
    rw [hb] at hok
    have hE := fun w => eq_inst ⟨op, 0, ty, noRefL⟩ ⟨op, n, ty, r⟩ w
    rw [hk] at Hop
    obtain ⟨b, eb⟩ : ∃ b, decide ((⟨op, 0, ty, noRefL⟩ : InstL) = ⟨op, n, ty, r⟩) = b := ⟨_, rfl⟩
    rw [eb] at hE
    rw [hok b eb]
    clear hok eb hb hk
    unfold InstL.v InstL.cells at hE Hin ⊢
    simp only [noRefL, bs_nil] at hE
    go_enter Tryz.func90, Tryz.ntmps90
    go_wp2_with fail
    refine (Hop _).out.mono ?_
    rintro e w1 ⟨rfl, hU1⟩
    obtain ⟨hc1, hf1, hz1⟩ := hU1.cells
    have hz1' : w.heap.size + 1 < w1.heap.size := by simp at hz1; omega
    have hz2' : w.heap.size < w1.heap.size := by omega
    have hU2 := (hU0.alloc (.cells #[.int .i64 op, .int .i64 0, .string ⟨#[]⟩, .bool false, .string ⟨#[]⟩, .string ⟨#[]⟩, .string ⟨#[]⟩] 90)).trans hU1
    cases b
    · go_wp2
      go_ret
      exact ⟨rfl, (hU2.setCell (.inr (by simp)) _)⟩
    · go_wp2_with fail
      refine (Hin _ (hm.upd (hU2.setCell (.inr (by simp)) _) (by simp))).out.mono ?_
      rintro e w2 ⟨rfl, hU3⟩
      cases c
      all_goals
        go_wp2
        go_ret
        exact ⟨rfl, (hU2.setCell (.inr (by simp)) _).trans hU3⟩
  · have hb : (InstL.mk op n ty r).bare = ⟨op, 0, ty, noRefL⟩ := by unfold InstL.bare; simp [hk]
    rw [hb] at hok
    have hE := fun w => eq_inst ⟨op, 0, ty, noRefL⟩ ⟨op, n, ty, r⟩ w
    rw [hk] at Hop
    obtain ⟨b, eb⟩ : ∃ b, decide ((⟨op, 0, ty, noRefL⟩ : InstL) = ⟨op, n, ty, r⟩) = b := ⟨_, rfl⟩
    rw [eb] at hE
    rw [hok b eb]
    clear hok eb hb hk
    unfold InstL.v InstL.cells at hE Hin ⊢
    simp only [noRefL, bs_nil] at hE
    go_enter Tryz.func90, Tryz.ntmps90
    go_wp2_with fail
    refine (Hop _).out.mono ?_
    rintro e w1 ⟨rfl, hU1⟩
    obtain ⟨hc1, hf1, hz1⟩ := hU1.cells
    have hz1' : w.heap.size + 1 < w1.heap.size := by simp at hz1; omega
    have hz2' : w.heap.size < w1.heap.size := by omega
    have hU2 := (hU0.alloc (.cells #[.int .i64 op, .int .i64 0, .string ⟨#[]⟩, .bool false, .string ⟨#[]⟩, .string ⟨#[]⟩, .string ⟨#[]⟩] 90)).trans hU1
    cases b
    · go_wp2
      go_ret
      exact ⟨rfl, (hU2.setCell (.inr (by simp)) _)⟩
    · go_wp2_with fail
      refine (Hin _ (hm.upd (hU2.setCell (.inr (by simp)) _) (by simp))).out.mono ?_
      rintro e w2 ⟨rfl, hU3⟩
      cases c
      all_goals
        go_wp2
        go_ret
        exact ⟨rfl, (hU2.setCell (.inr (by simp)) _).trans hU3⟩
  · have hb : (InstL.mk op n ty r).bare = ⟨op, n, ty, noRefL⟩ := by unfold InstL.bare; simp [hk]
    rw [hb] at hok
    have hE := fun w => eq_inst ⟨op, n, ty, noRefL⟩ ⟨op, n, ty, r⟩ w
    rw [hk] at Hop
    obtain ⟨b, eb⟩ : ∃ b, decide ((⟨op, n, ty, noRefL⟩ : InstL) = ⟨op, n, ty, r⟩) = b := ⟨_, rfl⟩
    rw [eb] at hE
    rw [hok b eb]
    clear hok eb hb hk
    unfold InstL.v InstL.cells at hE Hin ⊢
    simp only [noRefL, bs_nil] at hE
    go_enter Tryz.func90, Tryz.ntmps90
    go_wp2_with fail
    refine (Hop _).out.mono ?_
    rintro e w1 ⟨rfl, hU1⟩
    obtain ⟨hc1, hf1, hz1⟩ := hU1.cells
    have hz1' : w.heap.size + 1 < w1.heap.size := by simp at hz1; omega
    have hz2' : w.heap.size < w1.heap.size := by omega
    have hU2 := (hU0.alloc (.cells #[.int .i64 op, .int .i64 0, .string ⟨#[]⟩, .bool false, .string ⟨#[]⟩, .string ⟨#[]⟩, .string ⟨#[]⟩] 90)).trans hU1
    go_wp2
    go_region
    all_goals
      cases b
      · go_wp2
        go_ret
        exact ⟨rfl, ((hU2.setCell (.inr (by simp)) _).setCell (.inr (by simp)) _).drew⟩
      · go_wp2_with fail
        refine (Hin _ (hm.upd ((hU2.setCell (.inr (by simp)) _).setCell (.inr (by simp)) _).drew (by simp))).out.mono ?_
        rintro e w2 ⟨rfl, hU3⟩
        cases c
        all_goals
          go_wp2
          go_ret
          exact ⟨rfl, ((hU2.setCell (.inr (by simp)) _).setCell (.inr (by simp)) _).drew.trans hU3⟩
  · have hb : (InstL.mk op n ty r).bare = ⟨op, 0, [], r⟩ := by unfold InstL.bare; simp [hk]
    rw [hb] at hok
    have hE := fun w => eq_inst ⟨op, 0, [], r⟩ ⟨op, n, ty, r⟩ w
    rw [hk] at Hop
    obtain ⟨b, eb⟩ : ∃ b, decide ((⟨op, 0, [], r⟩ : InstL) = ⟨op, n, ty, r⟩) = b := ⟨_, rfl⟩
    rw [eb] at hE
    rw [hok b eb]
    clear hok eb hb hk
    unfold InstL.v InstL.cells at hE Hin ⊢
    simp only [noRefL, bs_nil] at hE
    go_enter Tryz.func90, Tryz.ntmps90
    go_wp2_with fail
    refine (Hop _).out.mono ?_
    rintro e w1 ⟨rfl, hU1⟩
    obtain ⟨hc1, hf1, hz1⟩ := hU1.cells
    have hz1' : w.heap.size + 1 < w1.heap.size := by simp at hz1; omega
    have hz2' : w.heap.size < w1.heap.size := by omega
    have hU2 := (hU0.alloc (.cells #[.int .i64 op, .int .i64 0, .string ⟨#[]⟩, .bool false, .string ⟨#[]⟩, .string ⟨#[]⟩, .string ⟨#[]⟩] 90)).trans hU1
    cases b
    · go_wp2
      go_ret
      exact ⟨rfl, ((((hU2.setCell (.inr (by simp)) _).setCell (.inr (by simp)) _).setCell (.inr (by simp)) _).setCell (.inr (by simp)) _)⟩
    · go_wp2_with fail
      refine (Hin _ (hm.upd ((((hU2.setCell (.inr (by simp)) _).setCell (.inr (by simp)) _).setCell (.inr (by simp)) _).setCell (.inr (by simp)) _) (by simp))).out.mono ?_
      rintro e w2 ⟨rfl, hU3⟩
      cases c
      all_goals
        go_wp2
        go_ret
        exact ⟨rfl, ((((hU2.setCell (.inr (by simp)) _).setCell (.inr (by simp)) _).setCell (.inr (by simp)) _).setCell (.inr (by simp)) _).trans hU3⟩
end Go.Proofs.YtfpdeiefkimaaaaGreatDoor
