/-
  A strings.Builder of the call's own: WriteString, String; what lies below it stays.
-/
import Derived.Deep.WholeRow
import Derived.Test.YtfpdeiefkimaaaaGreatDoorK5
import Derived.Test.YtfpdeiefkimaaaaGreatDoorK7
import Derived.Test.YtfpdeiefkimaaaaGreatDoorK8
set_option linter.unusedSimpArgs false
set_option linter.unusedVariables false
namespace Go.Proofs.YtfpdeiefkimaaaaGreatDoor
open Go.RowKit

/-- A builder in block b that holds these bytes. -/
def BldAt (b : Nat) (l : List UInt8) (w : World) : Prop := Lib.IsBuilder 53 5 b b (Lib.byteCells l) w

theorem Upd.low {a w w' : World} (h : Upd a w []) (hb : Below a.heap.size w w') : Upd a w' [] :=
  ⟨hb.os.trans h.os, hb.tape.trans h.tape, hb.output.trans h.output, Nat.le_trans h.size hb.size, fun x hx _ => (hb.block x hx).trans (h.block x hx (by simp))⟩
theorem BldAt.lt {b : Nat} {l : List UInt8} {w : World} (h : BldAt b l w) : b < w.heap.size := by
  rcases h with h | h
  · exact h.lt
  · exact h.lt
theorem BldAt.upd {b : Nat} {l : List UInt8} {w w' : World} (h : BldAt b l w) (u : Upd w w' []) : BldAt b l w' := by
  have hlt := h.lt
  rcases h with ⟨hb, v, hc, ho, hn⟩ | ⟨hb, v, hc, ho, hn⟩
  · exact .inl ⟨hb, v, (u.block b hlt (by simp)).trans hc, u.own ho (by simp), hn⟩
  · exact .inr ⟨hb, v, (u.block b hlt (by simp)).trans hc, u.own ho (by simp), hn⟩
theorem BldAt.new (w : World) : BldAt w.heap.size [] (w.alloc (.cells #[.pointer none, .slice none 0 0] 53)) :=
  .inl ⟨Nat.le_refl _, .slice none 0 0, heap_alloc_new w _, ⟨rfl, .inl ⟨rfl, rfl⟩⟩, by simp [Value.ownBlock]⟩

/-- What of the memory stays where a builder is written to: all but its own block and blocks of bytes. -/
structure Keep (b : Nat) (w w' : World) : Prop where
  os : w'.os = w.os
  tape : w'.tape = w.tape
  output : w'.output = w.output
  size : w.heap.size ≤ w'.heap.size
  block : ∀ x, x < w.heap.size → x ≠ b → (x < b ∨ ¬ ∃ cs fr, w.heap[x]? = some (.cells cs 5 fr)) → w'.heap[x]? = w.heap[x]?
theorem Keep.refl (b : Nat) (w : World) : Keep b w w := ⟨rfl, rfl, rfl, Nat.le_refl _, fun _ _ _ _ => rfl⟩
theorem Keep.trans {b : Nat} {x y z : World} (h : Keep b x y) (k : Keep b y z) : Keep b x z :=
  ⟨k.os.trans h.os, k.tape.trans h.tape, k.output.trans h.output, Nat.le_trans h.size k.size, fun i hi hb hc => by
    have h1 := h.block i hi hb hc
    exact (k.block i (Nat.lt_of_lt_of_le hi h.size) hb (hc.imp id (fun hn => by rw [h1]; exact hn))).trans h1⟩
theorem Keep.of_upd {b : Nat} {w w' : World} (u : Upd w w' []) : Keep b w w' := ⟨u.os, u.tape, u.output, u.size, fun x hx _ _ => u.block x hx (by simp)⟩
theorem Keep.below {b : Nat} {w w' : World} (h : Keep b w w') (hb : b ≤ w.heap.size) : Below b w w' := ⟨h.os, h.tape, h.output, h.size, fun x hx => h.block x (by omega) (by omega) (.inl hx)⟩
theorem Keep.blk {b : Nat} {w w' : World} (h : Keep b w w') {g : Nat} {t : TypeId} {cs : Array Value} (hg : Blk w g t cs) (ht : t ≠ 5) (hb : g ≠ b) : Blk w' g t cs := by
  refine (h.block g hg.lt hb (.inr ?_)).trans hg
  rintro ⟨cs', fr, e⟩
  unfold Blk at hg
  rw [hg] at e
  injection e with e
  injection e with _ e
  exact ht e
theorem Upd.keep {a w w' : World} {b : Nat} (h : Upd a w []) (hk : Keep b w w') (hb : b = a.heap.size) : Upd a w' [] := by
  subst hb
  exact h.low (hk.below h.size)

theorem copyCheck_any (b : Nat) (l : List UInt8) (w : World) (h : BldAt b l w) :
    Calls Tryz.prog 51 #[.pointer (some ⟨b, 0, none⟩)] w fun e w' => e = .returned (.tuple #[]) ∧ Lib.BuilderAt 53 5 b b (.pointer (some ⟨b, 0, none⟩)) (Lib.byteCells l) w' ∧ Keep b w w' := by
  rcases h with h | h
  · refine (Any.Builder_copyCheck_fresh (P := Tryz.prog) (ρ := Tryz.lays156_ren) { Tryz.lays156 with } Tryz.Builder_Extra_156.toX72 b w h.cell0 h.shape h.frozen0).mono ?_
    rintro e w' ⟨rfl, rfl⟩
    exact ⟨rfl, h.used _, rfl, rfl, rfl, by simp [World.setCell], fun x _ hx _ => Below.heap_setCell w _ _ x hx⟩
  · refine (Any.Builder_copyCheck_used (P := Tryz.prog) (ρ := Tryz.lays156_ren) { Tryz.lays156 with } Tryz.Builder_Extra_156.toX72 b w h.cell0).mono ?_
    rintro e w' ⟨rfl, rfl⟩
    exact ⟨rfl, h, Keep.refl _ _⟩

theorem infoByte : (Tryz.prog.info? 5).map (fun i => (i.zero, i.size, i.bytes)) = some (some (.int .u8 0), 1, 1) := by kernel_rfl

set_option maxHeartbeats 2000000 in
set_option maxRecDepth 100000 in
theorem writeString_any (b : Nat) (l s : List UInt8) (w : World) (h : BldAt b l w) (hl : l.length + s.length ≤ 140737488355328) :
    Calls Tryz.prog 22 #[.pointer (some ⟨b, 0, none⟩), .string (bs s)] w fun e w' => e = .returned (.tuple #[.int .i64 s.length, .nilIface]) ∧ BldAt b (l ++ s) w' ∧ Keep b w w' := by
  obtain ⟨i0, hi, hz0, hz1, hz2⟩ := info_parts infoByte
  have Hc := hid (copyCheck_any b l w h)
  have hs := bs_size s
  have hbc : (Lib.byteCells l).length = l.length := by simp [Lib.byteCells]
  go_enter Tryz.func22, Tryz.ntmps22
  go_wp2_with fail
  refine Hc.out.mono ?_
  rintro e w1 ⟨rfl, h1, hk1⟩
  have hlt : b < w1.heap.size := h1.lt
  obtain ⟨hB, v, hbk, hown, hne⟩ := h1
  have c0 : w1.cell? ⟨b, 0, none⟩ = some (.pointer (some ⟨b, 0, none⟩)) := by rw [Lib.cell_of_heap hbk]; rfl
  have c1 : w1.cell? ⟨b, 1, none⟩ = some v := by rw [Lib.cell_of_heap hbk]; rfl
  go_wp2_with (at_builtin; refine Lib.wpList_append_own_string _ rfl _ _ 51 9 rfl b 5 i0 Tryz.underlying51 Tryz.underlying9 hi hz0 hz1 hz2 _ _ _ rfl hown (bs s) rfl ?c3 ?c4 ?c5 ?_)
  case c3 => unfold maxLen; omega
  case c4 => omega
  case c5 => omega
  intro v' w2 hown' hgrow _
  have hb2 : w2.heap[b]? = some (.cells #[.pointer (some ⟨b, 0, none⟩), v] 53 (0, 0)) := by
    rw [hgrow.block b hlt (fun e => hne e.symm)]
    exact hbk
  have d0 : w2.cell? ⟨b, 0, none⟩ = some (.pointer (some ⟨b, 0, none⟩)) := by rw [Lib.cell_of_heap hb2]; rfl
  have d1 : w2.cell? ⟨b, 1, none⟩ = some v := by rw [Lib.cell_of_heap hb2]; rfl
  have f1 : w2.frozen? ⟨b, 1, none⟩ = false := Lib.frozen_of_heap hb2 1
  have hty : ∀ q, v.ownBlock = some q → b ≤ q ∧ ∃ cs fr, w1.heap[q]? = some (.cells cs 5 fr) := by
    intro q hq
    rcases hown.2 with ⟨hv, _⟩ | ⟨g, cap, cur, hv, hbg, hg, _⟩
    · rw [hv] at hq; simp [Value.ownBlock] at hq
    · rw [hv] at hq
      simp [Value.ownBlock] at hq
      subst hq
      exact ⟨hbg, _, _, hg⟩
  have Hty := hid hty
  clear hty
  obtain ⟨ao, n', cap, rfl⟩ : ∃ ao n' cap, v' = .slice ao n' cap := by
    rcases hown'.2 with ⟨hv, _⟩ | ⟨g, cap, cur, hv, _⟩
    · exact ⟨_, _, _, hv⟩
    · exact ⟨_, _, _, hv⟩
  have hk2 : Keep b w1 w2 := ⟨hgrow.os, hgrow.tape, hgrow.output, hgrow.size, fun x hx hxb hc => hgrow.block x hx (fun e => by
    obtain ⟨q1, q2⟩ := Hty.out x e.symm
    rcases hc with hc | hc
    · omega
    · exact hc q2)⟩
  have Hk2 := hid hk2
  have Hgo := hid hown'
  clear hk2 hown' hgrow
  go_wp2
  go_ret2
  refine ⟨rfl, ?_, ?_⟩
  · have e1 : Lib.byteCells l ++ Lib.strCells (bs s) = Lib.byteCells (l ++ s) := by
      unfold Lib.strCells Lib.byteCells
      rw [bs_data, List.map_append]
    have := Lib.BuilderAt.put (T := 53) (e := 5) hB hb2 (bs' := Lib.byteCells l ++ Lib.strCells (bs s)) (by simp only [List.length_append, Lib.strCells_length]; rw [hbc, hs]; exact Hgo.out) Tryz.Builder_Extra_156.neB5
    rw [e1] at this
    exact .inr this
  · exact hk1.trans (Hk2.out.trans ⟨rfl, rfl, rfl, by simp [World.setCell], fun x _ hx _ => Below.heap_setCell _ _ _ x hx⟩)

theorem bldString_any (b : Nat) (l : List UInt8) (w : World) (h : BldAt b l w) :
    Calls Tryz.prog 23 #[.pointer (some ⟨b, 0, none⟩)] w fun e w' => e = .returned (.string (bs l)) ∧ Below b w w' :=
  Tryz.Builder_String_any b b l w h (Nat.le_of_lt h.lt)

/-- How long the parts of a text are, joined. -/
theorem join_le : ∀ ps : List (List UInt8), (Lib.join ps [32]).length ≤ (ps.map List.length).sum + ps.length
  | [] => by simp [Lib.join, List.intercalate]
  | [a] => by simp [Lib.join, List.intercalate, List.intersperse]
  | a :: b :: t => by
    have h := join_le (b :: t)
    have e : Lib.join (a :: b :: t) [32] = a ++ ([32] ++ Lib.join (b :: t) [32]) := by simp [Lib.join, List.intercalate, List.intersperse]
    rw [e]
    simp only [List.length_append, List.map_cons, List.sum_cons, List.length_cons, List.length_nil] at h ⊢
    omega

/-- Join of a row of strings, nil or not. -/
theorem joinRow_any (v : Value) (n : Nat) (ps : List (List UInt8)) (w : World) (h : w.ownsRow 0 9 1 v n (ps.map strV)) (hl : (Lib.join ps [32]).length ≤ 140737488355328) (hp : ps.length ≤ 1000000) :
    Calls Tryz.prog 45 #[v, .string ⟨#[32]⟩] w fun e w' => e = .returned (.string (bs (Lib.join ps [32]))) ∧ Upd w w' [] := by
  have hn : n = ps.length := by have := h.1; simpa using this.symm
  rcases h.2 with ⟨rfl, h0⟩ | ⟨g, cap, cur, rfl, _⟩
  · subst h0
    obtain rfl : ps = [] := List.eq_nil_of_length_eq_zero hn.symm
    refine (Tryz.strings_Join_none none 0 ⟨#[32]⟩ w).mono ?_
    rintro e w' ⟨rfl, rfl⟩
    exact ⟨rfl, Upd.refl _ _⟩
  · exact join_any g n cap ps w h hn hl hp
end Go.Proofs.YtfpdeiefkimaaaaGreatDoor
/-
  Package flags, walked.
-/
set_option linter.unusedSimpArgs false
set_option linter.unusedVariables false
namespace Go.Proofs.YtfpdeiefkimaaaaGreatDoor
open Go.RowKit

def allF (f m : Int) : Bool := bits BinOp.and IntKind.i64 f m == m
def anyF (f m : Int) : Bool := bits BinOp.and IntKind.i64 f m != 0
def outF (f m : Int) : Bool := bits BinOp.andNot IntKind.i64 f m != 0
theorem all_any (f m : Int) (w : World) : Calls Tryz.prog 169 #[.int .i64 f, .int .i64 m] w fun e w' => e = .returned (.bool (allF f m)) ∧ w = w' := by
  go_enter Tryz.func169, Tryz.ntmps169
  go_wp2
  go_ret
  exact ⟨rfl, rfl⟩

/-- Do a class's flags go together? -/
def classF (f : Int) : Bool := !(outF f 1585 || allF f 1040) && !(allF f 512 && (!allF f 1024 || anyF f 48))
theorem checkClass_any (f : Int) (w : World) : Calls Tryz.prog 123 #[.int .i64 f] w fun e w' => e = .returned (.int .i64 (errIf (classF f))) ∧ w = w' := by
  have HA := fun m w => hid (all_any f m w)
  unfold classF
  have h1 : (bits BinOp.andNot IntKind.i64 f 1585 != 0) = outF f 1585 := rfl
  have h5 : (bits BinOp.and IntKind.i64 f 48 != 0) = anyF f 48 := rfl
  generalize outF f 1585 = b1 at *
  generalize anyF f 48 = b5 at *
  have H2 := HA 1040
  have H3 := HA 512
  have H4 := HA 1024
  generalize allF f 1040 = b2 at *
  generalize allF f 512 = b3 at *
  generalize allF f 1024 = b4 at *
  clear HA
  go_enter Tryz.func123, Tryz.ntmps123
  go_wp2_with fail
  refine (H3 _).out.mono ?_
  rintro e w1 ⟨rfl, rfl⟩
  cases b1 with
  | true =>
    go_wp2
    go_ret
    exact ⟨by simp [errIf], rfl⟩
  | false =>
    go_wp2_with fail
    refine (H2 _).out.mono ?_
    rintro e w1 ⟨rfl, rfl⟩
    cases b2 with
    | true =>
      go_wp2
      go_ret
      exact ⟨by simp [errIf], rfl⟩
    | false =>
      cases b3 with
      | false =>
        go_wp2
        go_ret
        exact ⟨by simp [errIf], rfl⟩
      | true =>
        go_wp2_with fail
        refine (H4 _).out.mono ?_
        rintro e w1 ⟨rfl, rfl⟩
        cases b4 with
        | false =>
          go_wp2
          go_ret
          exact ⟨by simp [errIf], rfl⟩
        | true =>
          cases b5
          all_goals
            go_wp2
            go_ret
            exact ⟨by simp [errIf], rfl⟩

/-- Do a method's flags go together, in a class or an interface, for this name? -/
def methodF (f : Int) (iface init : Bool) : Bool :=
  !outF f 1055 && !(bits BinOp.and IntKind.i64 (bits BinOp.and IntKind.i64 f 7) (wrap64 (bits BinOp.and IntKind.i64 f 7 - 1)) != 0) && !(allF f 1024 && anyF f 26) &&
    !(iface && ((bits BinOp.and IntKind.i64 (bits BinOp.and IntKind.i64 f 7) 3 == 0) || anyF f 16 || init)) && !(init && anyF f 1048)
set_option maxHeartbeats 2000000 in
theorem checkMethod_any (f : Int) (iface : Bool) (nm : List UInt8) (w : World) :
    Calls Tryz.prog 127 #[.int .i64 f, .bool iface, .string (bs nm)] w fun e w' => e = .returned (.int .i64 (errIf (methodF f iface (decide (nm = initB))))) ∧ w = w' := by
  have H4 := fun w => hid (all_any f 1024 w)
  unfold methodF
  have h0 : (bits BinOp.andNot IntKind.i64 f 1055 != 0) = outF f 1055 := rfl
  obtain ⟨b1, h1⟩ : ∃ b, (bits BinOp.and IntKind.i64 (bits BinOp.and IntKind.i64 f 7) (wrap64 (bits BinOp.and IntKind.i64 f 7 - 1)) != 0) = b := ⟨_, rfl⟩
  obtain ⟨b5, h5⟩ : ∃ b, (bits BinOp.and IntKind.i64 (bits BinOp.and IntKind.i64 f 7) 3 == 0) = b := ⟨_, rfl⟩
  rw [h1, h5]
  have h3 : (bits BinOp.and IntKind.i64 f 26 != 0) = anyF f 26 := rfl
  have h6 : (bits BinOp.and IntKind.i64 f 16 != 0) = anyF f 16 := rfl
  have h8 : (bits BinOp.and IntKind.i64 f 1048 != 0) = anyF f 1048 := rfl
  have h7 : ((bs nm).toList == [60, 105, 110, 105, 116, 62]) = decide (nm = initB) := by
    rw [bs_toList, Bool.eq_iff_iff, decide_eq_true_eq]
    simp [initB]
  generalize decide (nm = initB) = b7 at *
  generalize outF f 1055 = b0 at *
  generalize allF f 1024 = b2 at *
  generalize anyF f 26 = b3 at *
  generalize anyF f 16 = b6 at *
  generalize anyF f 1048 = b8 at *
  cases b0 with
  | true =>
    clear h1 h3 h5 h6 h8
    cases b7
    all_goals
      go_enter Tryz.func127, Tryz.ntmps127
      go_wp2
      go_ret
      exact ⟨by simp [errIf], rfl⟩
  | false =>
    cases b1 with
    | true =>
      clear h3 h5 h6 h8
      cases b7
      all_goals
        go_enter Tryz.func127, Tryz.ntmps127
        go_wp2
        go_ret
        exact ⟨by simp [errIf], rfl⟩
    | false =>
      cases b2 <;> cases b3 <;> cases iface <;> cases b5 <;> cases b6 <;> cases b7 <;> cases b8
      all_goals
        go_enter Tryz.func127, Tryz.ntmps127
        go_wp2_with fail
        refine (H4 _).out.mono ?_
        rintro e w1 ⟨rfl, rfl⟩
        go_wp2
        go_ret
        exact ⟨by simp [errIf], rfl⟩
end Go.Proofs.YtfpdeiefkimaaaaGreatDoor
/-
  Classes in memory; Find, walked.
-/
set_option linter.unusedSimpArgs false
set_option linter.unusedVariables false
namespace Go.Proofs.YtfpdeiefkimaaaaGreatDoor
open Go.RowKit

/-- A method, with where its instructions lie. -/
structure MethL where
  nm : List UInt8
  ds : List UInt8
  fl : Int
  lo : Int
  st : Int
  A : Option Addr
  cap : Nat
  code : List InstL
def MethL.cells (m : MethL) : Array Value := #[.string (bs m.nm), .string (bs m.ds), .int .i64 m.fl, .int .i64 m.lo, .int .i64 m.st, .slice m.A m.code.length m.cap]
def MethL.v (m : MethL) : Value := .agg m.cells
def MethsAt (w : World) (A : Option Addr) (l : List MethL) : Prop :=
  l ≠ [] → ∃ bk off, A = some ⟨bk, off, none⟩ ∧ bk < w.heap.size ∧ ∀ i (h : i < l.length), ∀ j, j < 6 → w.cell? ⟨bk, off + i * 6 + j, none⟩ = l[i].cells[j]?
theorem MethsAt.upd {w w' : World} {A : Option Addr} {l : List MethL} (h : MethsAt w A l) (u : Upd w w' []) : MethsAt w' A l := by
  intro hl
  obtain ⟨bk, off, e, hb, hc⟩ := h hl
  refine ⟨bk, off, e, Nat.lt_of_lt_of_le hb u.size, fun i hi j hj => ?_⟩
  rw [u.cells.1 _ _ hb]
  exact hc i hi j hj
theorem MethsAt.six {w : World} {bk off : Nat} {l : List MethL} (hc : ∀ i (h : i < l.length), ∀ j, j < 6 → w.cell? ⟨bk, off + i * 6 + j, none⟩ = l[i].cells[j]?) {i : Nat} (h : i < l.length) {nm ds : List UInt8} {fl lo st : Int} {A : Option Addr} {cap : Nat} {code : List InstL} (e : l[i] = ⟨nm, ds, fl, lo, st, A, cap, code⟩) :
    w.cell? ⟨bk, off + i * 6, none⟩ = some (.string (bs nm)) ∧ w.cell? ⟨bk, off + i * 6 + 1, none⟩ = some (.string (bs ds)) ∧ w.cell? ⟨bk, off + i * 6 + 2, none⟩ = some (.int .i64 fl) ∧ w.cell? ⟨bk, off + i * 6 + 3, none⟩ = some (.int .i64 lo) ∧
      w.cell? ⟨bk, off + i * 6 + 4, none⟩ = some (.int .i64 st) ∧ w.cell? ⟨bk, off + i * 6 + 5, none⟩ = some (.slice A code.length cap) := by
  have q := fun j hj => hc i h j hj
  rw [e] at q
  exact ⟨q 0 (by omega), q 1 (by omega), q 2 (by omega), q 3 (by omega), q 4 (by omega), q 5 (by omega)⟩

/-- A class. -/
structure ClassL where
  nm : List UInt8
  sup : List UInt8
  AI : Option Addr
  cI : Nat
  ifs : List (List UInt8)
  fl : Int
  ld : Int
  AM : Option Addr
  cM : Nat
  ms : List MethL
def ClassL.cells (c : ClassL) : Array Value := #[.string (bs c.nm), .string (bs c.sup), .slice c.AI c.ifs.length c.cI, .int .i64 c.fl, .int .i64 c.ld, .slice c.AM c.ms.length c.cM]
def ClassL.v (c : ClassL) : Value := .agg c.cells

def hitB (nm ds : List UInt8) (m : MethL) : Bool := decide (m.nm = nm) && decide (m.ds = ds)
/-- The first method of this name and descriptor. -/
def findL (nm ds : List UInt8) : List MethL → Nat → Int
  | [], _ => -1
  | m :: t, k => if hitB nm ds m then k else findL nm ds t (k + 1)

set_option maxHeartbeats 2000000 in
theorem find1_any (m : MethL) (p q : Addr) (nm ds : List UInt8) (w : World) (h1 : w.cell? p = some (.string (bs nm))) (h2 : w.cell? q = some (.string (bs ds))) :
    Calls Tryz.prog 131 #[m.v, .pointer (some p), .pointer (some q)] w fun e w' => e = .returned (.bool (hitB nm ds m)) ∧ Upd w w' [] := by
  obtain ⟨mn, md, fl, lo, st, A, cap, code⟩ := m
  have hU : Upd w (w.alloc (.cells (MethL.mk mn md fl lo st A cap code).cells 86)) [] := (Upd.refl _ _).alloc _
  have hb1 := World.block_lt_of_cell? w p h1
  have hb2 := World.block_lt_of_cell? w q h2
  unfold hitB
  unfold MethL.v MethL.cells
  unfold MethL.cells at hU
  simp only at hU ⊢
  by_cases e1 : mn = nm
  · subst e1
    by_cases e2 : md = ds
    · subst e2
      have t1 := bs_beq mn mn
      have t2 := bs_beq md md
      go_enter Tryz.func131, Tryz.ntmps131
      go_wp2
      go_ret
      exact ⟨bool_ret (by simp), hU⟩
    · have t1 := bs_beq mn mn
      have t2 : ((bs md).toList == (bs ds).toList) = false := by rw [bs_beq, decide_eq_false e2]
      go_enter Tryz.func131, Tryz.ntmps131
      go_wp2
      go_ret
      exact ⟨bool_ret (by simp [e2]), hU⟩
  · have t1 : ((bs mn).toList == (bs nm).toList) = false := by rw [bs_beq, decide_eq_false e1]
    go_enter Tryz.func131, Tryz.ntmps131
    go_wp2
    go_ret
    exact ⟨bool_ret (by simp [e1]), hU⟩

theorem findL_at (nm ds : List UInt8) : ∀ (l : List MethL) (k i : Nat) (h : i < l.length), (∀ j (hj : j < l.length), j < i → hitB nm ds l[j] = false) → hitB nm ds l[i] = true → findL nm ds l k = ((k + i : Nat) : Int)
  | [], _, i, h, _, _ => absurd h (by simp)
  | m :: t, k, 0, _, _, hh => by
    unfold findL
    rw [if_pos (by simpa using hh)]
    rfl
  | m :: t, k, i + 1, h, hn, hh => by
    unfold findL
    have h0 := hn 0 (by simp) (by omega)
    simp only [List.getElem_cons_zero] at h0
    rw [if_neg (by rw [h0]; simp)]
    have := findL_at nm ds t (k + 1) i (by simpa using h) (fun j hj hji => by have := hn (j + 1) (Nat.succ_lt_succ hj) (by omega); rw [List.getElem_cons_succ] at this; exact this) (by simpa using hh)
    rw [this]
    congr 1
    omega
theorem findL_none (nm ds : List UInt8) : ∀ (l : List MethL) (k : Nat), (∀ j (hj : j < l.length), hitB nm ds l[j] = false) → findL nm ds l k = -1
  | [], _, _ => rfl
  | m :: t, k, hn => by
    unfold findL
    have h0 := hn 0 (by simp)
    simp only [List.getElem_cons_zero] at h0
    rw [if_neg (by rw [h0]; simp)]
    exact findL_none nm ds t (k + 1) (fun j hj => by have := hn (j + 1) (Nat.succ_lt_succ hj); rw [List.getElem_cons_succ] at this; exact this)

def indexMethRel (l : List MethL) (nm ds : List UInt8) (w : World) (t : Value) (wr : World) : Prop :=
  ∃ k : Nat, t = .int .i64 k ∧ k ≤ l.length ∧ Hid (∀ i (hi : i < l.length), i < k → hitB nm ds l[i] = false) ∧ Upd w wr []

set_option maxHeartbeats 4000000 in
set_option maxRecDepth 100000 in
theorem indexMeth_any (A : Option Addr) (cap : Nat) (l : List MethL) (p q : Addr) (nm ds : List UInt8) (w : World) (hA : MethsAt w A l) (hl : l.length ≤ 2000000000000) (h1 : w.cell? p = some (.string (bs nm))) (h2 : w.cell? q = some (.string (bs ds))) :
    Calls Tryz.prog 130 #[.slice A l.length cap, .func (.func 131) #[] #[.pointer (some p), .pointer (some q)]] w fun e w' => e = .returned (.int .i64 (findL nm ds l 0)) ∧ Upd w w' [] := by
  have HA := hid hA
  have hb1 := World.block_lt_of_cell? w p h1
  have hb2 := World.block_lt_of_cell? w q h2
  have H1 := hid h1
  have H2 := hid h2
  clear hA h1 h2
  go_enter Tryz.func130, Tryz.ntmps130
  go_wp2
  go_loopw [8] (fun t wr => indexMethRel l nm ds w t wr) (fun t _ => l.length - (intOf t).toNat)
  case atStart => exact ⟨0, rfl, Nat.zero_le _, hid (fun i _ h => absurd h (Nat.not_lt_zero _)), Upd.refl _ _⟩
  case round =>
    obtain ⟨k, rfl, hk, hgood, hU⟩ := hrel
    by_cases hlt : k < l.length
    · have hne : l ≠ [] := by rintro rfl; simp at hlt
      obtain ⟨bk, off, rfl, hbk, hc⟩ := HA.out hne
      obtain ⟨mn, md, fl, lo, st, A', cap', code, e⟩ : ∃ a b c d f g h i, l[k] = MethL.mk a b c d f g h i := ⟨_, _, _, _, _, _, _, _, rfl⟩
      have hbr : bk < wr.heap.size := Nat.lt_of_lt_of_le hbk hU.size
      obtain ⟨x0, x1, x2, x3, x4, x5⟩ := MethsAt.six (w := wr) (fun i hi j hj => by rw [hU.cells.1 _ _ hbk]; exact hc i hi j hj) hlt e
      have Hm := hid (find1_any ⟨mn, md, fl, lo, st, A', cap', code⟩ p q nm ds wr ((hU.below.cell hb1).trans H1.out) ((hU.below.cell hb2).trans H2.out))
      have hgd : hitB nm ds l[k] = false → Hid (∀ i (hi : i < l.length), i < k + 1 → hitB nm ds l[i] = false) := fun h => hid (fun i hi h2 => by
          rcases Nat.lt_or_ge i k with h3 | h3
          · exact hgood.out i hi h3
          · have : i = k := by omega
            subst this
            exact h)
      have hat := hid (fun h => findL_at nm ds l 0 k hlt (fun j hj hji => hgood.out j hj hji) h)
      rw [e] at hgd hat
      have Hgd := hid hgd
      clear hgd hgood hc e
      unfold MethL.v MethL.cells at Hm
      simp only at Hm
      cases hx : hitB nm ds (MethL.mk mn md fl lo st A' cap' code) with
      | true =>
        have Hat := hid (hat.out hx)
        rw [hx] at Hm
        clear hat hx Hgd
        go_wp2_with fail
        refine Hm.out.mono ?_
        rintro e w2 ⟨rfl, hU2⟩
        have hV := hU.trans hU2
        clear x0 x1 x2 x3 x4 x5
        go_wp2
        go_ret
        exact ⟨ret_int (by rw [Hat.out]; simp), hV⟩
      | false =>
        have Hg := Hgd.out hx
        rw [hx] at Hm
        clear hat hx Hgd
        go_wp2_with fail
        refine Hm.out.mono ?_
        rintro e w2 ⟨rfl, hU2⟩
        have hV := hU.trans hU2
        clear x0 x1 x2 x3 x4 x5
        go_wp2
        go_roundw
        case rel => exact ⟨k + 1, by go_num, by omega, Hg, hV⟩
        case measure => simp [intOf]; omega
    · obtain rfl : k = l.length := by omega
      have Hn := hid (findL_none nm ds l 0 (fun j hj => hgood.out j hj hj))
      clear hgood
      go_wp2
      go_ret
      exact ⟨ret_int (by rw [Hn.out]), hU⟩

set_option maxHeartbeats 4000000 in
set_option maxRecDepth 100000 in
theorem find_any (c : ClassL) (nm ds : List UInt8) (w : World) (hA : MethsAt w c.AM c.ms) (hl : c.ms.length ≤ 2000000000000) :
    Calls Tryz.prog 74 #[c.v, .string (bs nm), .string (bs ds)] w fun e w' => e = .returned (.int .i64 (findL nm ds c.ms 0)) ∧ Upd w w' [] := by
  obtain ⟨cn, cs, AI, cI, ifs, fl, ld, A, cap, l⟩ := c
  unfold ClassL.v ClassL.cells
  simp only at hA hl ⊢
  go_enter Tryz.func74, Tryz.ntmps74
  have hU : Upd w (((w.alloc (.cells #[.string (bs cn), .string (bs cs), .slice AI ifs.length cI, .int .i64 fl, .int .i64 ld, .slice A l.length cap] 46)).alloc (.cells #[.string (bs nm)] 9)).alloc (.cells #[.string (bs ds)] 9)) [] := (((Upd.refl _ _).alloc _).alloc _).alloc _
  have c1 : (((w.alloc (.cells #[.string (bs cn), .string (bs cs), .slice AI ifs.length cI, .int .i64 fl, .int .i64 ld, .slice A l.length cap] 46)).alloc (.cells #[.string (bs nm)] 9)).alloc (.cells #[.string (bs ds)] 9)).cell? ⟨w.heap.size + 1, 0, none⟩ = some (.string (bs nm)) := by
    have := ((Blk.new_at (w := w.alloc (.cells #[.string (bs cn), .string (bs cs), .slice AI ifs.length cI, .int .i64 fl, .int .i64 ld, .slice A l.length cap] 46)) (t := 9) (cs := #[.string (bs nm)]) (g := w.heap.size + 1) (by simp)).alloc (.cells #[.string (bs ds)] 9)).cell 0
    simpa using this
  have c2 : (((w.alloc (.cells #[.string (bs cn), .string (bs cs), .slice AI ifs.length cI, .int .i64 fl, .int .i64 ld, .slice A l.length cap] 46)).alloc (.cells #[.string (bs nm)] 9)).alloc (.cells #[.string (bs ds)] 9)).cell? ⟨w.heap.size + 1 + 1, 0, none⟩ = some (.string (bs ds)) := by
    have := (Blk.new_at (w := (w.alloc (.cells #[.string (bs cn), .string (bs cs), .slice AI ifs.length cI, .int .i64 fl, .int .i64 ld, .slice A l.length cap] 46)).alloc (.cells #[.string (bs nm)] 9)) (t := 9) (cs := #[.string (bs ds)]) (g := w.heap.size + 1 + 1) (by simp)).cell 0
    simpa using this
  have HI := hid (indexMeth_any A cap l _ _ nm ds _ (hA.upd hU) hl c1 c2)
  clear c1 c2
  have HU := hid hU
  clear hU
  go_wp2_with fail
  refine HI.out.mono ?_
  rintro e w2 ⟨rfl, hU2⟩
  go_wp2
  go_ret
  exact ⟨rfl, HU.out.trans hU2⟩
end Go.Proofs.YtfpdeiefkimaaaaGreatDoor
/-
  types.Args, shapes.Words, walked.
-/
set_option linter.unusedSimpArgs false
set_option linter.unusedVariables false
namespace Go.Proofs.YtfpdeiefkimaaaaGreatDoor
open Go.RowKit

set_option maxHeartbeats 1000000 in
theorem args_any (ds : List UInt8) (w : World) (hd : ds.length ≤ 9223372036854775807) (hm : MaxLenAt w) :
    Calls Tryz.prog 173 #[.string (bs ds)] w fun e w' => e = .returned (.tuple #[.int .i64 (descL ds).1, .int .i64 (descL ds).2]) ∧ Upd w w' [] := by
  have Hb := hid (parseDesc_any ds w (by omega) hm)
  generalize descL ds = q at Hb ⊢
  obtain ⟨qn, qe⟩ := q
  simp only
  go_enter Tryz.func173, Tryz.ntmps173
  go_wp2_with fail
  refine Hb.out.mono ?_
  rintro e w2 ⟨⟨A, cap, vd, d, nm', rfl⟩, hU3⟩
  go_wp2
  exact bodyPost_ret (v := .tuple #[.int .i64 qn, .int .i64 qe]) (by simp [results, Tryz.results173, go_sem]) rfl ⟨rfl, hU3.alloc _⟩

/-- How many words a method's arguments take: with its receiver. -/
def wordsL (ds : List UInt8) (fl : Int) : Int × Int :=
  if (descL ds).2 = 0 then (((descL ds).1 : Int) + (if bits BinOp.and IntKind.i64 fl 8 == 0 then 1 else 0), 0) else (0, 1)

set_option maxHeartbeats 1000000 in
theorem words5_any (m : MethL) (w : World) (hd : m.ds.length ≤ 9223372036854775807) (hn : (descL m.ds).1 ≤ 1000000) (hm : MaxLenAt w) :
    Calls Tryz.prog 128 #[m.v] w fun e w' => e = .returned (.tuple #[.int .i64 (wordsL m.ds m.fl).1, .int .i64 (wordsL m.ds m.fl).2]) ∧ Upd w w' [] := by
  obtain ⟨mn, ds, fl, lo, st, A, cap, code⟩ := m
  have Hb := fun w hm => hid (args_any ds w (by exact hd) hm)
  unfold MethL.v MethL.cells wordsL
  simp only at hd hn ⊢
  generalize descL ds = q at Hb hn ⊢
  obtain ⟨qn, qe⟩ := q
  have hU : Upd w (w.alloc (.cells #[.string (bs mn), .string (bs ds), .int .i64 fl, .int .i64 lo, .int .i64 st, .slice A code.length cap] 86)) [] := (Upd.refl _ _).alloc _
  simp only at hn Hb ⊢
  have hw1 : wrap64 ((qn : Int) + 1) = (qn : Int) + 1 := by unfold wrap64; omega
  by_cases he : qe = 0
  · subst he
    obtain ⟨b, hb⟩ : ∃ b, (bits BinOp.and IntKind.i64 fl 8 == 0) = b := ⟨_, rfl⟩
    rw [hb]
    cases b
    all_goals
      go_enter Tryz.func128, Tryz.ntmps128
      go_wp2_with fail
      refine (Hb _ (hm.upd hU (by simp))).out.mono ?_
      rintro e w1 ⟨rfl, hU1⟩
      obtain ⟨hc1, hf1, hz1⟩ := hU1.cells
      have hz1' : w.heap.size < w1.heap.size := by simp at hz1; omega
      go_wp2
      refine bodyPost_ret (v := .tuple #[.int .i64 _, .int .i64 _]) (by simp [results, Tryz.results128, go_sem]; exact ⟨rfl, rfl⟩) rfl ⟨by simp, hU.trans hU1⟩
  · have heb : (qe == 0) = false := by simpa using he
    go_enter Tryz.func128, Tryz.ntmps128
    go_wp2_with fail
    refine (Hb _ (hm.upd hU (by simp))).out.mono ?_
    rintro e w1 ⟨rfl, hU1⟩
    go_wp2
    refine bodyPost_ret (v := .tuple #[.int .i64 0, .int .i64 1]) (by simp [results, Tryz.results128, go_sem]) rfl ⟨by simp [he], hU.trans hU1⟩
end Go.Proofs.YtfpdeiefkimaaaaGreatDoor
/-
  shapes.header, walked.
-/
set_option linter.unusedSimpArgs false
set_option linter.unusedVariables false
namespace Go.Proofs.YtfpdeiefkimaaaaGreatDoor
open Go.RowKit

/-- A slice at A reads as these strings. -/
def StrsAt (w : World) (A : Option Addr) (l : List (List UInt8)) : Prop :=
  l ≠ [] → ∃ bk off, A = some ⟨bk, off, none⟩ ∧ bk < w.heap.size ∧ ∀ i (h : i < l.length), w.cell? ⟨bk, off + i, none⟩ = some (.string (bs l[i]))
theorem StrsAt.upd {w w' : World} {A : Option Addr} {l : List (List UInt8)} (h : StrsAt w A l) (u : Upd w w' []) : StrsAt w' A l := by
  intro hl
  obtain ⟨bk, off, e, hb, hc⟩ := h hl
  refine ⟨bk, off, e, Nat.lt_of_lt_of_le hb u.size, fun i hi => ?_⟩
  rw [u.cells.1 _ _ hb]
  exact hc i hi

theorem contains_any (A : Option Addr) (cap : Nat) (l : List (List UInt8)) (k : Nat) (x : List UInt8) (w : World) (hA : StrsAt w A l) (hk : k ≤ l.length) (hl : l.length ≤ 9000000000000) :
    Calls Tryz.prog 124 #[.slice A k cap, .string (bs x)] w fun e w' => e = .returned (.bool (decide (x ∈ l.take k))) ∧ w = w' := by
  rcases Nat.eq_zero_or_pos k with rfl | hpos
  · refine (Tryz.slices_Contains_string_empty A cap (bs x) w).mono ?_
    rintro e w' ⟨rfl, rfl⟩
    exact ⟨bool_ret (by simp), rfl⟩
  · have hne : l ≠ [] := by rintro rfl; simp at hk; omega
    obtain ⟨bk, off, rfl, hb, hc⟩ := hA hne
    refine (Tryz.slices_Contains_string bk off k cap (l.map bs) (bs x) w (by simpa using hk) (by omega) (fun j hj => ?_)).mono ?_
    · have hj' : j < l.length := by simpa using hj
      rw [hc j hj']
      simp [List.getD, hj']
    · rintro e w' ⟨rfl, rfl⟩
      refine ⟨bool_ret ?_, rfl⟩
      rw [Bool.eq_iff_iff, Lib.containsS_iff, decide_eq_true_eq, ← List.map_take, List.mem_map]
      exact ⟨fun ⟨a, ha, he⟩ => by rw [← bs_inj he]; exact ha, fun h => ⟨x, h, rfl⟩⟩
end Go.Proofs.YtfpdeiefkimaaaaGreatDoor
/-
  Package flags, walked: the words of flags.
-/
set_option linter.unusedSimpArgs false
set_option linter.unusedVariables false
namespace Go.Proofs.YtfpdeiefkimaaaaGreatDoor
open Go.RowKit

/-- Each flag and its word. -/
def flagT : List (Int × List UInt8) := [(1, [112, 117, 98, 108, 105, 99]), (2, [112, 114, 105, 118, 97, 116, 101]), (4, [112, 114, 111, 116, 101, 99, 116, 101, 100]), (8, [115, 116, 97, 116, 105, 99]), (16, [102, 105, 110, 97, 108]), (32, [115, 117, 112, 101, 114]), (512, [105, 110, 116, 101, 114, 102, 97, 99, 101]), (1024, [97, 98, 115, 116, 114, 97, 99, 116])]
def flagCells : Array Value := (flagT.flatMap fun p => [Value.int .i64 p.1, Value.string (bs p.2)]).toArray
theorem infoWords : (Tryz.prog.info? 194).map (·.size) = some 16 := by kernel_rfl

set_option maxRecDepth 100000 in
set_option maxHeartbeats 8000000 in
theorem flagWords_any (w : World) : Calls Tryz.prog 143 #[] w fun e w' => e = .returned (.agg flagCells) ∧ Upd w w' [] := by
  have hi := infoWords
  go_enter Tryz.func143, Tryz.ntmps143
  go_wp2
  have e : ∀ cs : Array Value, cs = flagCells → Blk (w.alloc (.cells cs 194)) w.heap.size 194 flagCells := by
    rintro cs rfl
    exact Blk.new _ _ _
  refine bodyPost_ret (v := .agg flagCells) ?_ rfl ⟨rfl, (Upd.refl _ _).alloc _⟩
  exact results_cell_row Tryz.results143 _ _ w.heap.size 194 flagCells (0, 0) (.array 8 193) rfl (e _ (by kernel_rfl)) (by kernel_rfl) rfl (by rw [infoWords]; kernel_rfl)

theorem run_word0 (w : World) : (Instr.index 194 (.agg flagCells) (.int .i64 ((0 : Nat) : Int))).run Tryz.prog w = .ok (.agg #[.int .i64 (flagT.getD 0 (0, [])).1, .string (bs (flagT.getD 0 (0, [])).2)]) w := by kernel_rfl
theorem run_word1 (w : World) : (Instr.index 194 (.agg flagCells) (.int .i64 ((1 : Nat) : Int))).run Tryz.prog w = .ok (.agg #[.int .i64 (flagT.getD 1 (0, [])).1, .string (bs (flagT.getD 1 (0, [])).2)]) w := by kernel_rfl
theorem run_word2 (w : World) : (Instr.index 194 (.agg flagCells) (.int .i64 ((2 : Nat) : Int))).run Tryz.prog w = .ok (.agg #[.int .i64 (flagT.getD 2 (0, [])).1, .string (bs (flagT.getD 2 (0, [])).2)]) w := by kernel_rfl
theorem run_word3 (w : World) : (Instr.index 194 (.agg flagCells) (.int .i64 ((3 : Nat) : Int))).run Tryz.prog w = .ok (.agg #[.int .i64 (flagT.getD 3 (0, [])).1, .string (bs (flagT.getD 3 (0, [])).2)]) w := by kernel_rfl
theorem run_word4 (w : World) : (Instr.index 194 (.agg flagCells) (.int .i64 ((4 : Nat) : Int))).run Tryz.prog w = .ok (.agg #[.int .i64 (flagT.getD 4 (0, [])).1, .string (bs (flagT.getD 4 (0, [])).2)]) w := by kernel_rfl
theorem run_word5 (w : World) : (Instr.index 194 (.agg flagCells) (.int .i64 ((5 : Nat) : Int))).run Tryz.prog w = .ok (.agg #[.int .i64 (flagT.getD 5 (0, [])).1, .string (bs (flagT.getD 5 (0, [])).2)]) w := by kernel_rfl
theorem run_word6 (w : World) : (Instr.index 194 (.agg flagCells) (.int .i64 ((6 : Nat) : Int))).run Tryz.prog w = .ok (.agg #[.int .i64 (flagT.getD 6 (0, [])).1, .string (bs (flagT.getD 6 (0, [])).2)]) w := by kernel_rfl
theorem run_word7 (w : World) : (Instr.index 194 (.agg flagCells) (.int .i64 ((7 : Nat) : Int))).run Tryz.prog w = .ok (.agg #[.int .i64 (flagT.getD 7 (0, [])).1, .string (bs (flagT.getD 7 (0, [])).2)]) w := by kernel_rfl
theorem run_word (k : Nat) (h : k < 8) (w : World) :
    (Instr.index 194 (.agg flagCells) (.int .i64 k)).run Tryz.prog w = .ok (.agg #[.int .i64 (flagT.getD k (0, [])).1, .string (bs (flagT.getD k (0, [])).2)]) w :=
  match k, h with
  | 0, _ => run_word0 w
  | 1, _ => run_word1 w
  | 2, _ => run_word2 w
  | 3, _ => run_word3 w
  | 4, _ => run_word4 w
  | 5, _ => run_word5 w
  | 6, _ => run_word6 w
  | 7, _ => run_word7 w
/-- The words of flags, among the first k. -/
def flagsL (f : Int) : Nat → List (List UInt8)
  | 0 => []
  | k + 1 => flagsL f k ++ if anyF f (flagT.getD k (0, [])).1 then [(flagT.getD k (0, [])).2] else []
def flagsText (f : Int) : List UInt8 := Lib.join (flagsL f 8) [32]
def flagText (f m : Int) : List UInt8 × Int := if outF f m then ([], 1) else (flagsText f, 0)
theorem flagT_le (k : Nat) : ((flagT.getD k (0, [])).2).length ≤ 9 := by
  rcases Nat.lt_or_ge k 8 with h | h
  · match k, h with
    | 0, _ => decide
    | 1, _ => decide
    | 2, _ => decide
    | 3, _ => decide
    | 4, _ => decide
    | 5, _ => decide
    | 6, _ => decide
    | 7, _ => decide
  · rw [List.getD_eq_getElem?_getD, List.getElem?_eq_none (by show 8 ≤ k; omega)]; simp
theorem flagsL_le (f : Int) : ∀ k, (flagsL f k).length ≤ k ∧ ((flagsL f k).map List.length).sum ≤ 9 * k
  | 0 => by simp [flagsL]
  | k + 1 => by
    have h := flagsL_le f k
    have h9 := flagT_le k
    unfold flagsL
    split
    · simp only [List.length_append, List.map_append, List.sum_append, List.length_cons, List.length_nil, List.map_cons, List.map_nil, List.sum_cons, List.sum_nil]
      omega
    · simp only [List.append_nil]
      omega
theorem flagsText_le (f : Int) : (flagsText f).length ≤ 80 := by
  have h := flagsL_le f 8
  have := join_le (flagsL f 8)
  unfold flagsText
  omega

def textRel (f : Int) (w : World) (k v : Value) (wr : World) : Prop :=
  ∃ (i : Nat) (n : Nat) (u : Value), k = .int .i64 i ∧ i ≤ 8 ∧ v = u ∧ wr.ownsRow 0 9 1 u n ((flagsL f i).map strV) ∧ n ≤ 8 ∧ Upd w wr [] ∧ (∀ q, u.ownBlock = some q → w.heap.size ≤ q)

set_option maxHeartbeats 4000000 in
set_option maxRecDepth 100000 in
theorem text104_any (f m : Int) (w : World) :
    Calls Tryz.prog 87 #[.int .i64 f, .int .i64 m] w fun e w' => e = .returned (.tuple #[.string (bs (flagText f m).1), .int .i64 (flagText f m).2]) ∧ Upd w w' [] := by
  have h0 : (bits BinOp.andNot IntKind.i64 f m != 0) = outF f m := rfl
  unfold flagText
  cases ho : outF f m with
  | true =>
    rw [ho] at h0
    clear ho
    go_enter Tryz.func87, Tryz.ntmps87
    go_wp2
    go_ret2
    exact ⟨rfl, Upd.refl _ _⟩
  | false =>
    rw [ho] at h0
    clear ho
    obtain ⟨i0, hi0, qz0, qz1, qz2⟩ := info_parts infoString
    have Hw := fun w => hid (flagWords_any w)
    have Hl := hid (flagsL_le f 8)
    have Ht := hid (flagsText_le f)
    go_enter Tryz.func87, Tryz.ntmps87
    go_wp2_with fail
    refine (Hw _).out.mono ?_
    rintro e w1 ⟨rfl, hU1⟩
    clear h0 Hw
    generalize hfc : flagCells = fc
    have Hfc := hid hfc
    clear hfc
    go_wp2
    go_loopw [14, 6] (fun t v wr => textRel f w1 t v wr) (fun t _ _ => 8 - (intOf t).toNat)
    case atStart => exact ⟨0, 0, _, rfl, by omega, rfl, ⟨rfl, .inl ⟨rfl, rfl⟩⟩, by omega, Upd.refl _ _, by simp [Value.ownBlock]⟩
    case round =>
      obtain ⟨k, n, v, rfl, hk, hv, hown, hn, hU, hq⟩ := hrel
      have hv' := hv.symm
      subst hv'
      clear hv
      obtain ⟨A, cap, rfl, hcap1, hcap2⟩ := own_slice hown
      by_cases hlt : k < 8
      · have hr := run_word k hlt
        rw [Hfc.out] at hr
        have hstep : Hid (flagsL f (k + 1) = flagsL f k ++ if anyF f (flagT.getD k (0, [])).1 then [(flagT.getD k (0, [])).2] else []) := hid rfl
        generalize hp : flagT.getD k (0, []) = p at hr hstep
        obtain ⟨fl, wd⟩ := p
        simp only at hr hstep
        clear hp
        have hbb : (bits BinOp.and IntKind.i64 f fl != 0) = anyF f fl := rfl
        have hki : (k : Int) < 8 := by omega
        have hnk : n = (flagsL f k).length := by have := hown.1; simpa using this.symm
        have Hn := hid (show n ≤ k by rw [hnk]; exact (flagsL_le f k).1)
        clear hnk
        cases hb : anyF f fl with
        | true =>
          rw [hb] at hbb hstep
          obtain ⟨lk, hlk⟩ : ∃ lk, (flagsL f k).map strV = lk := ⟨_, rfl⟩
          have Hs2 : Hid ((flagsL f (k + 1)).map strV = lk ++ [.string (bs wd)]) := hid (by rw [hstep.out, ← hlk]; simp [strV])
          rw [hlk] at hown
          clear hb hstep hlk
          go_wp2_with (at_builtin; go_must (refine wpList_append_one _ rfl (.tmp 22) (.tmp 25) 43 rfl 9 i0 _ 1 16 Tryz.underlying43 hi0 qz0 qz1 qz2 rfl (by decide) (by decide) (.slice A n cap) n lk rfl (by exact (hown.alloc _).alloc _) (by omega) (wr.heap.size + 1) 9 #[.string (bs wd)] rfl (by exact Blk.new_at (by simp)) rfl rfl ?_); intro ga capa wa howna hga hata; have hVa := ((hU.alloc (.cells #[.int .i64 fl, .string (bs wd)] 193)).alloc (.cells #[.string (bs wd)] 9)).grown hga (by intro q hq2; right; exact hq q hq2); have hzw : w1.heap.size ≤ wr.heap.size := hU.size)
          go_roundw
          case rel => exact ⟨k + 1, n + 1, _, by go_num, by omega, rfl, by rw [Hs2.out]; exact howna, by have := Hn.out; omega, hVa, by intro q hq2; simp [Value.ownBlock] at hq2; subst hq2; rcases hata with h | h; exact hq _ h; simp at h; omega⟩
          case measure => simp [intOf]; omega
        | false =>
          rw [hb] at hbb hstep
          have hown2 : wr.ownsRow 0 9 1 (.slice A n cap) n ((flagsL f (k + 1)).map strV) := by rw [hstep.out]; simpa using hown
          have Ho2 := hid (hown2.alloc (.cells #[.int .i64 fl, .string (bs wd)] 193))
          have hVa := hU.alloc (.cells #[.int .i64 fl, .string (bs wd)] 193)
          clear hb hstep hown hown2
          go_wp2
          go_roundw
          case rel => exact ⟨k + 1, n, _, by go_num, by omega, rfl, Ho2.out, by have := Hn.out; omega, hVa, hq⟩
          case measure => simp [intOf]; omega
      · obtain rfl : k = 8 := by omega
        go_wp2_with fail
        refine (joinRow_any (.slice A n cap) n (flagsL f 8) _ hown (by have := Ht.out; unfold flagsText at this; omega) (by have := Hl.out.1; omega)).mono ?_
        rintro e w2 ⟨rfl, hU2⟩
        go_wp2
        go_ret2
        exact ⟨rfl, hU1.trans (hU.trans hU2)⟩

end Go.Proofs.YtfpdeiefkimaaaaGreatDoor
/-
  shapes.words, flags.ClassText, MethodText, and Print's own function line, walked.
-/
set_option linter.unusedSimpArgs false
set_option linter.unusedVariables false
namespace Go.Proofs.YtfpdeiefkimaaaaGreatDoor
open Go.RowKit

theorem classText_any (f : Int) (w : World) :
    Calls Tryz.prog 46 #[.int .i64 f] w fun e w' => e = .returned (.tuple #[.string (bs (flagText f 1585).1), .int .i64 (flagText f 1585).2]) ∧ Upd w w' [] := by
  have Ht := fun w => hid (text104_any f 1585 w)
  generalize flagText f 1585 = p at Ht ⊢
  obtain ⟨a, b⟩ := p
  simp only at Ht ⊢
  go_enter Tryz.func46, Tryz.ntmps46
  go_wp2_with fail
  refine (Ht _).out.mono ?_
  rintro e w1 ⟨rfl, hU1⟩
  go_wp2
  go_ret2
  exact ⟨rfl, hU1⟩
theorem methodText_any (f : Int) (w : World) :
    Calls Tryz.prog 49 #[.int .i64 f] w fun e w' => e = .returned (.tuple #[.string (bs (flagText f 1055).1), .int .i64 (flagText f 1055).2]) ∧ Upd w w' [] := by
  have Ht := fun w => hid (text104_any f 1055 w)
  generalize flagText f 1055 = p at Ht ⊢
  obtain ⟨a, b⟩ := p
  simp only at Ht ⊢
  go_enter Tryz.func49, Tryz.ntmps49
  go_wp2_with fail
  refine (Ht _).out.mono ?_
  rintro e w1 ⟨rfl, hU1⟩
  go_wp2
  go_ret2
  exact ⟨rfl, hU1⟩

/-- A word and more words, if there are any. -/
def wordT (a b : List UInt8) : List UInt8 := Lib.trimSuffix (a ++ [32] ++ b) [32]
theorem words86_any (a b : List UInt8) (w : World) (ha : a.length ≤ 10000000) (hb : b.length ≤ 10000000) :
    Calls Tryz.prog 47 #[.string (bs a), .string (bs b)] w fun e w' => e = .returned (.string (bs (wordT a b))) ∧ w = w' := by
  have s1 : (bs a).size ≤ 10000000 := by rw [bs_size]; exact ha
  have s2 : (bs b).size ≤ 10000000 := by rw [bs_size]; exact hb
  have Ht : ∀ w, Hid (Calls Tryz.prog 88 #[.string (bs a ++ ⟨#[32]⟩ ++ bs b), .string ⟨#[32]⟩] w fun e w' => e = .returned (.string (bs (wordT a b))) ∧ w' = w) := fun w => hid (by
    have := Tryz.strings_TrimSuffix (bs a ++ ⟨#[32]⟩ ++ bs b) ⟨#[32]⟩ w (by rw [show (⟨#[32]⟩ : ByteArray) = bs [32] from rfl, bs_append, bs_append, bs_size]; simp; omega)
    rw [show (bs a ++ ⟨#[32]⟩ ++ bs b) = bs (a ++ [32] ++ b) by rw [show (⟨#[32]⟩ : ByteArray) = bs [32] from rfl, bs_append, bs_append]] at this ⊢
    rw [bs_data] at this
    exact this)
  clear ha hb
  go_enter Tryz.func47, Tryz.ntmps47
  go_wp2_with fail
  refine (Ht _).out.mono ?_
  rintro e w1 ⟨rfl, rfl⟩
  go_wp2
  go_ret
  exact ⟨rfl, rfl⟩

/-- Print's line: the words, a blank between two, and an end of line, behind what the builder holds. -/
theorem line_any (b : Nat) (l : List UInt8) (ps : List (List UInt8)) (g : Nat) (w : World) (hb : BldAt b l w) (hB : Blk w g 9 (ps.map strV).toArray) (hps : ps.length ≤ 1000000) (hj : (Lib.join ps [32]).length ≤ 10000000) (hl : l.length ≤ 10000000000) :
    Calls Tryz.prog 44 #[.slice (some ⟨g, 0, none⟩) ps.length ps.length, .pointer (some ⟨b, 0, none⟩)] w fun e w' => e = .returned (.tuple #[]) ∧ BldAt b (l ++ (Lib.join ps [32] ++ [10])) w' ∧ Keep b w w' := by
  have hown : w.ownsRow 0 9 1 (.slice (some ⟨g, 0, none⟩) ps.length ps.length) ps.length (ps.map strV) := by
    have := own_of_blk hB (by unfold maxLen; simp; omega)
    simpa using this
  have Hj := hid (join_any g ps.length ps.length ps w hown rfl (by omega) hps)
  have hs : (bs (Lib.join ps [32])).size ≤ 10000000 := by rw [bs_size]; exact hj
  have hcat : bs (Lib.join ps [32]) ++ ⟨#[10]⟩ = bs (Lib.join ps [32] ++ [10]) := by rw [show (⟨#[10]⟩ : ByteArray) = bs [10] from rfl, bs_append]
  generalize Lib.join ps [32] = J at Hj hs hcat hj ⊢
  have Hw := fun w hb => hid (writeString_any b l (J ++ [10]) w hb (by simp; omega))
  rw [← hcat] at Hw
  have Hb := hid hb
  have hbl := hb.lt
  have Hcat := hid hcat
  clear hb hB hown hcat hj hl
  go_enter Tryz.func44, Tryz.ntmps44
  go_wp2_with fail
  refine Hj.out.mono ?_
  rintro e w1 ⟨rfl, hU1⟩
  go_wp2_with fail
  refine (Hw _ (Hb.out.upd hU1)).out.mono ?_
  rintro e w2 ⟨rfl, hB2, hL2⟩
  go_wp2
  go_end0
  exact ⟨rfl, hB2, (Keep.of_upd hU1).trans hL2⟩
end Go.Proofs.YtfpdeiefkimaaaaGreatDoor
