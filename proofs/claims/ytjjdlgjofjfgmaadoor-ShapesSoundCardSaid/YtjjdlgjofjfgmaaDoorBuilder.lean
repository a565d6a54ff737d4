/-
  A strings.Builder of the call's own: WriteString, String; what lies below it stays.
-/
import Derived.Test.YtjjdlgjofjfgmaaDoorCodeE
set_option linter.unusedSimpArgs false
set_option linter.unusedVariables false
namespace Go.Proofs.YtjjdlgjofjfgmaaDoor
open Go.RowKit

/-- A builder in block b that holds these bytes. -/
def BldAt (b : Nat) (l : List UInt8) (w : World) : Prop := Lib.IsBuilder 100 5 b b (Lib.byteCells l) w

theorem Upd.low {a w w' : World} (h : Upd a w []) (hb : Below a.heap.size w w') : Upd a w' [] :=
  ⟨hb.os.trans h.os, hb.tape.trans h.tape, hb.output.trans h.output, Nat.le_trans h.size hb.size, fun x hx _ => (hb.block x hx).trans (h.block x hx (by simp))⟩
theorem BldAt.lt {b : Nat} {l : List UInt8} {w : World} (h : BldAt b l w) : b < w.heap.size := by
  rcases h with h | h
  · exact h.lt
  · exact h.lt
theorem BldAt.upd {b : Nat} {l : List UInt8} {w w' : World} (h : BldAt b l w) (u : Upd w w' []) : BldAt b l w' := by
  have hlt := h.lt
  rcases h with ⟨hb, v, hc, ho, hn⟩ | ⟨hb, v, hc, ho, hn⟩
  · exact .inl ⟨hb, v, (u.block b hlt (by simp)).trans hc, u.own ho (by simp), hn⟩
  · exact .inr ⟨hb, v, (u.block b hlt (by simp)).trans hc, u.own ho (by simp), hn⟩
theorem BldAt.new (w : World) : BldAt w.heap.size [] (w.alloc (.cells #[.pointer none, .slice none 0 0] 100)) :=
  .inl ⟨Nat.le_refl _, .slice none 0 0, heap_alloc_new w _, ⟨rfl, .inl ⟨rfl, rfl⟩⟩, by simp [Value.ownBlock]⟩

/-- What of the memory stays where a builder is written to: all but its own block and blocks of bytes. -/
structure Keep (b : Nat) (w w' : World) : Prop where
  os : w'.os = w.os
  tape : w'.tape = w.tape
  output : w'.output = w.output
  size : w.heap.size ≤ w'.heap.size
  block : ∀ x, x < w.heap.size → x ≠ b → (x < b ∨ ¬ ∃ cs fr, w.heap[x]? = some (.cells cs 5 fr)) → w'.heap[x]? = w.heap[x]?
theorem Keep.refl (b : Nat) (w : World) : Keep b w w := ⟨rfl, rfl, rfl, Nat.le_refl _, fun _ _ _ _ => rfl⟩
theorem Keep.trans {b : Nat} {x y z : World} (h : Keep b x y) (k : Keep b y z) : Keep b x z :=
  ⟨k.os.trans h.os, k.tape.trans h.tape, k.output.trans h.output, Nat.le_trans h.size k.size, fun i hi hb hc => by
    have h1 := h.block i hi hb hc
    exact (k.block i (Nat.lt_of_lt_of_le hi h.size) hb (hc.imp id (fun hn => by rw [h1]; exact hn))).trans h1⟩
theorem Keep.of_upd {b : Nat} {w w' : World} (u : Upd w w' []) : Keep b w w' := ⟨u.os, u.tape, u.output, u.size, fun x hx _ _ => u.block x hx (by simp)⟩
theorem Keep.below {b : Nat} {w w' : World} (h : Keep b w w') (hb : b ≤ w.heap.size) : Below b w w' := ⟨h.os, h.tape, h.output, h.size, fun x hx => h.block x (by omega) (by omega) (.inl hx)⟩
theorem Keep.blk {b : Nat} {w w' : World} (h : Keep b w w') {g : Nat} {t : TypeId} {cs : Array Value} (hg : Blk w g t cs) (ht : t ≠ 5) (hb : g ≠ b) : Blk w' g t cs := by
  refine (h.block g hg.lt hb (.inr ?_)).trans hg
  rintro ⟨cs', fr, e⟩
  unfold Blk at hg
  rw [hg] at e
  injection e with e
  injection e with _ e
  exact ht e
theorem Upd.keep {a w w' : World} {b : Nat} (h : Upd a w []) (hk : Keep b w w') (hb : b = a.heap.size) : Upd a w' [] := by
  subst hb
  exact h.low (hk.below h.size)

theorem copyCheck_any (b : Nat) (l : List UInt8) (w : World) (h : BldAt b l w) :
    Calls Tryd.prog 96 #[.pointer (some ⟨b, 0, none⟩)] w fun e w' => e = .returned (.tuple #[]) ∧ Lib.BuilderAt 100 5 b b (.pointer (some ⟨b, 0, none⟩)) (Lib.byteCells l) w' ∧ Keep b w w' := by
  rcases h with h | h
  · refine (Any.Builder_copyCheck_fresh (P := Tryd.prog) (ρ := Tryd.lays156_ren) { Tryd.lays156 with } Tryd.Builder_Extra_156.toX72 b w h.cell0 h.shape h.frozen0).mono ?_
    rintro e w' ⟨rfl, rfl⟩
    exact ⟨rfl, h.used _, rfl, rfl, rfl, by simp [World.setCell], fun x _ hx _ => Below.heap_setCell w _ _ x hx⟩
  · refine (Any.Builder_copyCheck_used (P := Tryd.prog) (ρ := Tryd.lays156_ren) { Tryd.lays156 with } Tryd.Builder_Extra_156.toX72 b w h.cell0).mono ?_
    rintro e w' ⟨rfl, rfl⟩
    exact ⟨rfl, h, Keep.refl _ _⟩

theorem infoByte : (Tryd.prog.info? 5).map (fun i => (i.zero, i.size, i.bytes)) = some (some (.int .u8 0), 1, 1) := by kernel_rfl

set_option maxHeartbeats 2000000 in
set_option maxRecDepth 100000 in
theorem writeString_any (b : Nat) (l s : List UInt8) (w : World) (h : BldAt b l w) (hl : l.length + s.length ≤ 140737488355328) :
    Calls Tryd.prog 74 #[.pointer (some ⟨b, 0, none⟩), .string (bs s)] w fun e w' => e = .returned (.tuple #[.int .i64 s.length, .nilIface]) ∧ BldAt b (l ++ s) w' ∧ Keep b w w' := by
  obtain ⟨i0, hi, hz0, hz1, hz2⟩ := info_parts infoByte
  have Hc := hid (copyCheck_any b l w h)
  have hs := bs_size s
  have hbc : (Lib.byteCells l).length = l.length := by simp [Lib.byteCells]
  go_enter Tryd.func74, Tryd.ntmps74
  go_wp2_with fail
  refine Hc.out.mono ?_
  rintro e w1 ⟨rfl, h1, hk1⟩
  have hlt : b < w1.heap.size := h1.lt
  obtain ⟨hB, v, hbk, hown, hne⟩ := h1
  have c0 : w1.cell? ⟨b, 0, none⟩ = some (.pointer (some ⟨b, 0, none⟩)) := by rw [Lib.cell_of_heap hbk]; rfl
  have c1 : w1.cell? ⟨b, 1, none⟩ = some v := by rw [Lib.cell_of_heap hbk]; rfl
  go_wp2_with (at_builtin; refine Lib.wpList_append_own_string _ rfl _ _ 98 9 rfl b 5 i0 Tryd.underlying98 Tryd.underlying9 hi hz0 hz1 hz2 _ _ _ rfl hown (bs s) rfl ?c3 ?c4 ?c5 ?_)
  case c3 => unfold maxLen; omega
  case c4 => omega
  case c5 => omega
  intro v' w2 hown' hgrow _
  have hb2 : w2.heap[b]? = some (.cells #[.pointer (some ⟨b, 0, none⟩), v] 100 (0, 0)) := by
    rw [hgrow.block b hlt (fun e => hne e.symm)]
    exact hbk
  have d0 : w2.cell? ⟨b, 0, none⟩ = some (.pointer (some ⟨b, 0, none⟩)) := by rw [Lib.cell_of_heap hb2]; rfl
  have d1 : w2.cell? ⟨b, 1, none⟩ = some v := by rw [Lib.cell_of_heap hb2]; rfl
  have f1 : w2.frozen? ⟨b, 1, none⟩ = false := Lib.frozen_of_heap hb2 1
  have hty : ∀ q, v.ownBlock = some q → b ≤ q ∧ ∃ cs fr, w1.heap[q]? = some (.cells cs 5 fr) := by
    intro q hq
    rcases hown.2 with ⟨hv, _⟩ | ⟨g, cap, cur, hv, hbg, hg, _⟩
    · rw [hv] at hq; simp [Value.ownBlock] at hq
    · rw [hv] at hq
      simp [Value.ownBlock] at hq
      subst hq
      exact ⟨hbg, _, _, hg⟩
  have Hty := hid hty
  clear hty
  obtain ⟨ao, n', cap, rfl⟩ : ∃ ao n' cap, v' = .slice ao n' cap := by
    rcases hown'.2 with ⟨hv, _⟩ | ⟨g, cap, cur, hv, _⟩
    · exact ⟨_, _, _, hv⟩
    · exact ⟨_, _, _, hv⟩
  have hk2 : Keep b w1 w2 := ⟨hgrow.os, hgrow.tape, hgrow.output, hgrow.size, fun x hx hxb hc => hgrow.block x hx (fun e => by
    obtain ⟨q1, q2⟩ := Hty.out x e.symm
    rcases hc with hc | hc
    · omega
    · exact hc q2)⟩
  have Hk2 := hid hk2
  have Hgo := hid hown'
  clear hk2 hown' hgrow
  go_wp2
  go_ret2
  refine ⟨rfl, ?_, ?_⟩
  · have e1 : Lib.byteCells l ++ Lib.strCells (bs s) = Lib.byteCells (l ++ s) := by
      unfold Lib.strCells Lib.byteCells
      rw [bs_data, List.map_append]
    have := Lib.BuilderAt.put (T := 100) (e := 5) hB hb2 (bs' := Lib.byteCells l ++ Lib.strCells (bs s)) (by simp only [List.length_append, Lib.strCells_length]; rw [hbc, hs]; exact Hgo.out) Tryd.Builder_Extra_156.neB5
    rw [e1] at this
    exact .inr this
  · exact hk1.trans (Hk2.out.trans ⟨rfl, rfl, rfl, by simp [World.setCell], fun x _ hx _ => Below.heap_setCell _ _ _ x hx⟩)

theorem bldString_any (b : Nat) (l : List UInt8) (w : World) (h : BldAt b l w) :
    Calls Tryd.prog 75 #[.pointer (some ⟨b, 0, none⟩)] w fun e w' => e = .returned (.string (bs l)) ∧ Below b w w' :=
  Tryd.Builder_String_any b b l w h (Nat.le_of_lt h.lt)

/-- How long the parts of a text are, joined. -/
theorem join_le : ∀ ps : List (List UInt8), (Lib.join ps [32]).length ≤ (ps.map List.length).sum + ps.length
  | [] => by simp [Lib.join, List.intercalate]
  | [a] => by simp [Lib.join, List.intercalate, List.intersperse]
  | a :: b :: t => by
    have h := join_le (b :: t)
    have e : Lib.join (a :: b :: t) [32] = a ++ ([32] ++ Lib.join (b :: t) [32]) := by simp [Lib.join, List.intercalate, List.intersperse]
    rw [e]
    simp only [List.length_append, List.map_cons, List.sum_cons, List.length_cons, List.length_nil] at h ⊢
    omega

/-- Join of a row of strings, nil or not. -/
theorem joinRow_any (v : Value) (n : Nat) (ps : List (List UInt8)) (w : World) (h : w.ownsRow 0 9 1 v n (ps.map strV)) (hl : (Lib.join ps [32]).length ≤ 140737488355328) (hp : ps.length ≤ 1000000) :
    Calls Tryd.prog 46 #[v, .string ⟨#[32]⟩] w fun e w' => e = .returned (.string (bs (Lib.join ps [32]))) ∧ Upd w w' [] := by
  have hn : n = ps.length := by have := h.1; simpa using this.symm
  rcases h.2 with ⟨rfl, h0⟩ | ⟨g, cap, cur, rfl, _⟩
  · subst h0
    obtain rfl : ps = [] := List.eq_nil_of_length_eq_zero hn.symm
    refine (Tryd.strings_Join_none none 0 ⟨#[32]⟩ w).mono ?_
    rintro e w' ⟨rfl, rfl⟩
    exact ⟨rfl, Upd.refl _ _⟩
  · exact join_any g n cap ps w h hn hl hp
end Go.Proofs.YtjjdlgjofjfgmaaDoor
