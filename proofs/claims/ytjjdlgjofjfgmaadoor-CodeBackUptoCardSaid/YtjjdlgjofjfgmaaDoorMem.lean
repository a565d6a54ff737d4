/-
  Memory words: blocks that are known whole, what of the memory has turned, append of one element. No program text.
-/
import Derived.WalkKit
import Derived.Below
import Derived.Laws.OwnMore
import Derived.Deep.Draws
import Derived.WalkSmall
import Derived.OneCell
import Derived.Maps.AppendAt
import Derived.Deep.AppendLies
set_option linter.unusedSimpArgs false
set_option linter.unusedVariables false
namespace Go.Proofs.YtjjdlgjofjfgmaaDoor
open Go.RowKit

theorem hid {p : Prop} (h : p) : Hid p := h

/-- Block g is just these cells of this type, none frozen. -/
def Blk (w : World) (g : Nat) (t : TypeId) (cs : Array Value) : Prop := w.heap[g]? = some (.cells cs t (0, 0))

section
variable {w w' : World} {g : Nat} {t : TypeId} {cs : Array Value}
theorem Blk.lt (h : Blk w g t cs) : g < w.heap.size := by
  rcases Nat.lt_or_ge g w.heap.size with hlt | hge
  · exact hlt
  · unfold Blk at h; rw [Array.getElem?_eq_none hge] at h; cases h
theorem Blk.cell (h : Blk w g t cs) (i : Nat) : w.cell? ⟨g, i, none⟩ = cs[i]? := cell_of_row w g i cs t (0, 0) h
theorem Blk.frozen (h : Blk w g t cs) (i : Nat) : w.frozen? ⟨g, i, none⟩ = false := by
  unfold Blk at h
  simp [World.frozen?, h]
theorem Blk.new (w : World) (t : TypeId) (cs : Array Value) : Blk (w.alloc (.cells cs t)) w.heap.size t cs := heap_alloc_new w _
theorem Blk.new_at {w : World} {t : TypeId} {cs : Array Value} {g : Nat} (hg : g = w.heap.size) : Blk (w.alloc (.cells cs t)) g t cs := by subst hg; exact Blk.new w t cs
theorem Blk.alloc (h : Blk w g t cs) (o : Obj) : Blk (w.alloc o) g t cs := (Below.heap_alloc w o g h.lt).trans h
theorem Blk.drewN (h : Blk w g t cs) (n : Nat) : Blk (w.drewN n) g t cs := h
theorem Blk.set_ (h : Blk w g t cs) (i : Nat) (u : Value) : Blk (w.setCell ⟨g, i, none⟩ u) g t (cs.setIfInBounds i u) := by
  unfold Blk at h ⊢
  simp [World.setCell, Array.getElem?_modify, h]
theorem Blk.far (h : Blk w g t cs) {p : Addr} (hp : g ≠ p.block) (u : Value) : Blk (w.setCell p u) g t cs := (Below.heap_setCell w p u g hp).trans h
theorem Blk.grown {row : Option Nat} (h : Blk w g t cs) (hb : w.grownBy w' row) (hg : some g ≠ row) : Blk w' g t cs := (hb.block g h.lt hg).trans h
theorem Blk.ne_ {g' : Nat} {t' : TypeId} {cs' : Array Value} (h : Blk w g t cs) (h' : Blk w g' t' cs') (hne : t ≠ t') : g ≠ g' := by
  rintro rfl
  unfold Blk at h h'
  rw [h] at h'
  injection h' with h'
  injection h' with _ ht
  exact hne ht
theorem own_blk_ne {base : Nat} {e : TypeId} {size n : Nat} {v : Value} {xs : List Value} (h : w.ownsRow base e size v n xs) (hg : Blk w g t cs) (hne : e ≠ t) : v.ownBlock ≠ some g := by
  rcases h.2 with ⟨rfl, _⟩ | ⟨g', cap, cur, rfl, _, hh, _⟩
  · simp [Value.ownBlock]
  · intro he
    have : g' = g := by simpa [Value.ownBlock] using he
    subst this
    exact Blk.ne_ (t := e) hh hg hne rfl
theorem own_own_ne {base base' : Nat} {e e' : TypeId} {size n size' n' k : Nat} {v v' : Value} {xs xs' : List Value} (h : w.ownsRow base e size v n xs) (h' : w.ownsRow base' e' size' v' n' xs') (hne : e ≠ e') (hk : v.ownBlock = some k) : v'.ownBlock ≠ some k := by
  rcases h.2 with ⟨rfl, _⟩ | ⟨g', cap, cur, rfl, _, hh, _⟩
  · simp [Value.ownBlock] at hk
  · have : g' = k := by simpa [Value.ownBlock] using hk
    subst this
    exact own_blk_ne h' (t := e) hh (Ne.symm hne)
theorem Blk.grown_own {base : Nat} {e : TypeId} {size n : Nat} {v : Value} {xs : List Value} (h : Blk w g t cs) (hb : w.grownBy w' v.ownBlock) (ho : w.ownsRow base e size v n xs) (hne : e ≠ t) : Blk w' g t cs :=
  h.grown hb fun x => own_blk_ne ho h hne x.symm
theorem own_grown_own {base base' : Nat} {e e' : TypeId} {size n size' n' : Nat} {v v' : Value} {xs xs' : List Value} (h : w.ownsRow base e size v n xs) (hb : w.grownBy w' v'.ownBlock) (ho : w.ownsRow base' e' size' v' n' xs') (hne : e ≠ e') : w'.ownsRow base e size v n xs := by
  refine h.kept hb ?_
  cases hv : v.ownBlock with
  | none => exact .inl rfl
  | some k => exact .inr fun x => own_own_ne h ho hne hv x.symm
end

/-- What of the memory has turned: at most the blocks of F, and new ones. -/
structure Upd (w w' : World) (F : List Nat) : Prop where
  os : w'.os = w.os
  tape : w'.tape = w.tape
  output : w'.output = w.output
  size : w.heap.size ≤ w'.heap.size
  block : ∀ b, b < w.heap.size → b ∉ F → w'.heap[b]? = w.heap[b]?

def Value.ob (v : Value) : List Nat := v.ownBlock.toList
theorem mem_ob {v : Value} {k : Nat} : k ∈ Value.ob v ↔ v.ownBlock = some k := by
  unfold Value.ob
  cases v.ownBlock <;> simp [eq_comm]

theorem Upd.refl (w : World) (F : List Nat) : Upd w w F := ⟨rfl, rfl, rfl, Nat.le_refl _, fun _ _ _ => rfl⟩
theorem Upd.trans {a b c : World} {F : List Nat} (h : Upd a b F) (k : Upd b c F) : Upd a c F :=
  ⟨k.os.trans h.os, k.tape.trans h.tape, k.output.trans h.output, Nat.le_trans h.size k.size,
   fun x hx hF => (k.block x (Nat.lt_of_lt_of_le hx h.size) hF).trans (h.block x hx hF)⟩
theorem Upd.mono {w w' : World} {F F' : List Nat} (h : Upd w w' F) (hF : ∀ b, b ∈ F → b ∈ F') : Upd w w' F' :=
  ⟨h.os, h.tape, h.output, h.size, fun b hb hn => h.block b hb fun hm => hn (hF b hm)⟩
theorem Upd.of_below {w w' : World} (h : Below w.heap.size w w') (F : List Nat) : Upd w w' F := ⟨h.os, h.tape, h.output, h.size, fun b hb _ => h.block b hb⟩
theorem Upd.below {w w' : World} (h : Upd w w' []) : Below w.heap.size w w' := ⟨h.os, h.tape, h.output, h.size, fun b hb => h.block b hb (by simp)⟩
theorem Upd.drew {a w : World} {F : List Nat} (h : Upd a w F) : Upd a w.drew F := ⟨h.os, h.tape, h.output, h.size, h.block⟩
theorem Upd.drewN {a w : World} {F : List Nat} (h : Upd a w F) (n : Nat) : Upd a (w.drewN n) F := ⟨h.os, h.tape, h.output, h.size, h.block⟩
theorem Upd.alloc {a w : World} {F : List Nat} (h : Upd a w F) (o : Obj) : Upd a (w.alloc o) F :=
  ⟨h.os, h.tape, h.output, Nat.le_trans h.size (by simp), fun b hb hn => (Below.heap_alloc w o b (Nat.lt_of_lt_of_le hb h.size)).trans (h.block b hb hn)⟩
theorem Upd.setCell {a w : World} {F : List Nat} (h : Upd a w F) {p : Addr} (hp : p.block ∈ F ∨ a.heap.size ≤ p.block) (u : Value) : Upd a (w.setCell p u) F :=
  ⟨h.os, h.tape, h.output, by simpa [World.setCell] using h.size, fun b hb hn => (Below.heap_setCell w p u b (by
    rintro rfl
    rcases hp with hp | hp
    · exact hn hp
    · omega)).trans (h.block b hb hn)⟩
theorem Upd.grown {a w w' : World} {F : List Nat} {row : Option Nat} (h : Upd a w F) (hg : w.grownBy w' row) (hr : ∀ k, row = some k → k ∈ F ∨ a.heap.size ≤ k) : Upd a w' F :=
  ⟨hg.os.trans h.os, hg.tape.trans h.tape, hg.output.trans h.output, Nat.le_trans h.size hg.size, fun b hb hn => (hg.block b (Nat.lt_of_lt_of_le hb h.size) (fun e => by
    rcases hr b e.symm with h1 | h1
    · exact hn h1
    · omega)).trans (h.block b hb hn)⟩
theorem Upd.blk {w w' : World} {F : List Nat} (h : Upd w w' F) {g : Nat} {t : TypeId} {cs : Array Value} (hb : Blk w g t cs) (hg : g ∉ F) : Blk w' g t cs := (h.block g hb.lt hg).trans hb
theorem Upd.own {w w' : World} {F : List Nat} (h : Upd w w' F) {base : Nat} {e : TypeId} {size n : Nat} {v : Value} {xs : List Value} (ho : w.ownsRow base e size v n xs) (hv : ∀ k, k ∈ Value.ob v → k ∉ F) : w'.ownsRow base e size v n xs := by
  refine ⟨ho.1, ?_⟩
  rcases ho.2 with hn | ⟨g, cap, cur, rfl, hb, hgg, rest⟩
  · exact .inl hn
  · refine .inr ⟨g, cap, cur, rfl, hb, ?_, rest⟩
    rw [h.block g (Array.getElem?_eq_some_iff.1 hgg).1 (hv g (mem_ob.2 rfl))]
    exact hgg

/-- The value of a row that holds something. -/
theorem own_form {w : World} {base : Nat} {e : TypeId} {size n : Nat} {v : Value} {xs : List Value} (h : w.ownsRow base e size v n xs) (hn : 0 < n) :
    ∃ g cap, v = .slice (some ⟨g, 0, none⟩) n cap ∧ n ≤ cap ∧ cap ≤ maxLen ∧ g < w.heap.size := by
  rcases h.2 with ⟨_, h0⟩ | ⟨g, cap, cur, hv, hb, hg, h1, h2, _⟩
  · omega
  · exact ⟨g, cap, hv, h1, h2, (Array.getElem?_eq_some_iff.1 hg).1⟩
theorem own_slice {w : World} {base : Nat} {e : TypeId} {size n : Nat} {v : Value} {xs : List Value} (h : w.ownsRow base e size v n xs) :
    ∃ A cap, v = .slice A n cap ∧ n ≤ cap ∧ cap ≤ maxLen := by
  rcases h.2 with ⟨h1, h0⟩ | ⟨g, cap, cur, hv, hb, hg, h1, h2, _⟩
  · subst h0; exact ⟨none, 0, h1, by omega, by unfold maxLen; omega⟩
  · exact ⟨_, cap, hv, h1, h2⟩

/-- append of one element that lies in a block of its own, onto a row of the call's own. -/
theorem wp_append_one {P : Program} (w : World) {o : Oper} {a : Act} {K : Act → World → Prop} {Q : Exit → Act → World → Prop} (s x : Operand) (t : TypeId)
    (ho : o.op = .call { callee := .builtin .append, args := #[s, x], argTypes := #[t, t] })
    (e : TypeId) (i : TypeInfo) (z : Value) (size bytes : Nat) (ht : P.underlying t = some (.slice e)) (hi : P.info? e = some i) (hz : i.zero = some z)
    (hsize : i.size = size) (hby : i.bytes = bytes) (hzs : z.cells.size = size) (hsz : 0 < size) (hsb : bytes ≤ 1000)
    (v : Value) (n : Nat) (xs : List Value) (hs : a.eval s = v) (hown : w.ownsRow 0 e size v n xs) (hn : n ≤ 100000000000)
    (g : Nat) (te : TypeId) (cs : Array Value) (hx : a.eval x = .slice (some ⟨g, 0, none⟩) 1 1) (hb : Blk w g te cs) (hl : cs.size = size) (h1 : cs.toList.all Value.oneCell' = true)
    (h : ∀ g' cap' w', w'.ownsRow 0 e size (.slice (some ⟨g', 0, none⟩) (n + 1) cap') (n + 1) (xs ++ cs.toList) → w.grownBy w' v.ownBlock → (v.ownBlock = some g' ∨ g' = w.heap.size) →
      K (a.put o.dst (.slice (some ⟨g', 0, none⟩) (n + 1) cap')) w') : o.wp P a w K Q := by
  obtain ⟨v', w', hr, h2, h3, _, h5⟩ := run_append_own_at (P := P) w 0 t o.type e i z size bytes ht hi hz hsize hby hzs hsz v n xs hown ⟨g, 0, none⟩ 1 1 cs.toList (by simp [hl])
    (fun j u hu => by
      have hadd : (⟨g, 0, none⟩ : Addr).add j = ⟨g, j, none⟩ := by unfold Addr.add; split <;> simp_all
      rw [hadd, hb.cell]; simpa using hu)
    (fun u hu => List.all_eq_true.1 h1 u hu) (by unfold maxLen; omega)
    (by have : (n + 1) * bytes ≤ (n + 1) * 1000 := Nat.mul_le_mul_left _ hsb; omega) (Nat.zero_le _)
  obtain ⟨g', cap', rfl, _⟩ := own_form h2 (by omega)
  unfold Oper.wp execOp
  simp only [ho, resolve, invoke, builtin, Sem.run_bind, Sem.run_pure, Result.andThen_ok, List.map_toArray, List.map_cons, List.map_nil, hs, hx, hr]
  exact h g' cap' w' h2 h3 (by
    rcases h5 with h5 | h5
    · exact .inl h5.symm
    · right; simpa [Value.ownBlock] using h5)

theorem step_append_one {P : Program} (w : World) {ops : Array Oper} {o : Oper} {a : Act} {K : Act → World → Prop} {Q : Exit → Act → World → Prop} {E : Prop} (hgd : o.guard = none) (s x : Operand) (t : TypeId)
    (ho : o.op = .call { callee := .builtin .append, args := #[s, x], argTypes := #[t, t] })
    (e : TypeId) (i : TypeInfo) (z : Value) (size bytes : Nat) (ht : P.underlying t = some (.slice e)) (hi : P.info? e = some i) (hz : i.zero = some z)
    (hsize : i.size = size) (hby : i.bytes = bytes) (hzs : z.cells.size = size) (hsz : 0 < size) (hsb : bytes ≤ 1000)
    (v : Value) (n : Nat) (xs : List Value) (hs : a.eval s = v) (hown : w.ownsRow 0 e size v n xs) (hn : n ≤ 100000000000)
    (g : Nat) (te : TypeId) (cs : Array Value) (hx : a.eval x = .slice (some ⟨g, 0, none⟩) 1 1) (hb : Blk w g te cs) (hl : cs.size = size) (h1 : cs.toList.all Value.oneCell' = true)
    (h : ∀ g' cap' w', w'.ownsRow 0 e size (.slice (some ⟨g', 0, none⟩) (n + 1) cap') (n + 1) (xs ++ cs.toList) → w.grownBy w' v.ownBlock → (v.ownBlock = some g' ∨ g' = w.heap.size) →
      K (a.put o.dst (.slice (some ⟨g', 0, none⟩) (n + 1) cap')) w') :
    if Region.wanted o (yielded ops a.tmps) = true then Oper.wp P o a w K Q else E := by
  have hw : Region.wanted o (yielded ops a.tmps) = true := by simp [Region.wanted, hgd]
  rw [if_pos hw]
  exact wp_append_one w s x t ho e i z size bytes ht hi hz hsize hby hzs hsz hsb v n xs hs hown hn g te cs hx hb hl h1 h

theorem wpList_append_one {P : Program} (w : World) {ops : Array Oper} {rest : List Oper} {o : Oper} {a : Act} {Q : Exit → Act → World → Prop} (hgd : o.guard = none) (s x : Operand) (t : TypeId)
    (ho : o.op = .call { callee := .builtin .append, args := #[s, x], argTypes := #[t, t] })
    (e : TypeId) (i : TypeInfo) (z : Value) (size bytes : Nat) (ht : P.underlying t = some (.slice e)) (hi : P.info? e = some i) (hz : i.zero = some z)
    (hsize : i.size = size) (hby : i.bytes = bytes) (hzs : z.cells.size = size) (hsz : 0 < size) (hsb : bytes ≤ 1000)
    (v : Value) (n : Nat) (xs : List Value) (hs : a.eval s = v) (hown : w.ownsRow 0 e size v n xs) (hn : n ≤ 100000000000)
    (g : Nat) (te : TypeId) (cs : Array Value) (hx : a.eval x = .slice (some ⟨g, 0, none⟩) 1 1) (hb : Blk w g te cs) (hl : cs.size = size) (h1 : cs.toList.all Value.oneCell' = true)
    (h : ∀ g' cap' w', w'.ownsRow 0 e size (.slice (some ⟨g', 0, none⟩) (n + 1) cap') (n + 1) (xs ++ cs.toList) → w.grownBy w' v.ownBlock → (v.ownBlock = some g' ∨ g' = w.heap.size) →
      wpList P ops Q rest (a.put o.dst (.slice (some ⟨g', 0, none⟩) (n + 1) cap')) w') : wpList P ops Q (o :: rest) a w :=
  wpList_plain hgd fun _ hK => wp_append_one w s x t ho e i z size bytes ht hi hz hsize hby hzs hsz hsb v n xs hs hown hn g te cs hx hb hl h1 fun g' cap' w' h2 h3 h4 => hK _ _ (h g' cap' w' h2 h3 h4)

/-- A shorter piece of a row. -/
theorem own_cut {w : World} {base : Nat} {e : TypeId} {size n cap g : Nat} {xs : List Value} (h : w.ownsRow base e size (.slice (some ⟨g, 0, none⟩) n cap) n xs) (m : Nat) (hm : m ≤ n) :
    w.ownsRow base e size (.slice (some ⟨g, 0, none⟩) m cap) m (xs.take (m * size)) := by
  have hmn : m * size ≤ n * size := Nat.mul_le_mul_right _ hm
  refine ⟨by rw [List.length_take, h.1]; omega, ?_⟩
  rcases h.2 with ⟨h1, _⟩ | ⟨g', cap', cur, hv, hb, hg, h1, h2, h3, h4⟩
  · cases h1
  · injection hv with hv1 hv2 hv3
    injection hv1 with hv1
    injection hv1 with hv1
    subst hv1 hv3
    exact .inr ⟨g, cap, cur, rfl, hb, hg, by omega, h2, h3, by rw [← h4, List.take_take, Nat.min_eq_left hmn]⟩

end Go.Proofs.YtjjdlgjofjfgmaaDoor
