/-
  append of instructions onto a row of the call's own.
-/
import Derived.Test.YtjjdlgjofjfgmaaDoorAllsC
import Derived.Maps.AppendAt
import Derived.OwnWalk
set_option linter.unusedSimpArgs false
set_option linter.unusedVariables false
namespace Go.Proofs.YtjjdlgjofjfgmaaDoor
open Go.RowKit

theorem flat_length : ∀ l : List InstL, (l.flatMap fun i => i.cells.toList).length = l.length * 7
  | [] => rfl
  | i :: l => by
    rw [List.flatMap_cons, List.length_append, flat_length l, List.length_cons]
    have : i.cells.toList.length = 7 := rfl
    omega
theorem flat_get : ∀ (l : List InstL) (i : Nat) (h : i < l.length) (j : Nat), j < 7 → (l.flatMap fun i => i.cells.toList)[i * 7 + j]? = l[i].cells[j]?
  | [], i, h, _, _ => absurd h (by simp)
  | x :: l, 0, _, j, hj => by
    rw [List.flatMap_cons, List.getElem?_append_left (by have : x.cells.toList.length = 7 := rfl; omega)]
    simp
  | x :: l, i + 1, h, j, hj => by
    have e : x.cells.toList.length = 7 := rfl
    rw [List.flatMap_cons, List.getElem?_append_right (by omega), e, show (i + 1) * 7 + j - 7 = i * 7 + j by omega]
    exact flat_get l i (by simpa using h) j hj
theorem flat_one (l : List InstL) : ∀ u ∈ (l.flatMap fun i => i.cells.toList), u.oneCell' = true := by
  intro u hu
  obtain ⟨i, _, hi⟩ := List.mem_flatMap.1 hu
  obtain ⟨op, n, tx, r⟩ := i
  simp [InstL.cells] at hi
  rcases hi with rfl | rfl | rfl | rfl | rfl | rfl | rfl <;> rfl

def Owns (w : World) (base : Nat) (v : Value) (l : List InstL) : Prop := w.ownsRow base 25 7 v l.length (l.flatMap fun i => i.cells.toList)

theorem add_none (b o j : Nat) : (⟨b, o, none⟩ : Addr).add j = ⟨b, o + j, none⟩ := by
  unfold Addr.add
  split
  · rename_i h; simp [h]
  · rfl
theorem InstsAt.flat {w : World} {ad : Addr} {l : List InstL} (h : InstsAt w (some ad) l) : ∀ j u, (l.flatMap fun i => i.cells.toList)[j]? = some u → w.cell? (ad.add j) = some u := by
  intro j u hu
  have hj : j < (l.flatMap fun i => i.cells.toList).length := (List.getElem?_eq_some_iff.1 hu).1
  rw [flat_length] at hj
  have hne : l ≠ [] := by rintro rfl; simp at hj
  obtain ⟨b, o, e, _, hc⟩ := h hne
  obtain rfl := Option.some.inj e
  have hi : j / 7 < l.length := by omega
  have := hc (j / 7) hi (j % 7) (by omega)
  rw [add_none, ← hu, show j = j / 7 * 7 + j % 7 by omega, flat_get l _ hi _ (by omega), ← this]
  congr 2
  omega
theorem inst_info : (Tryd.prog.info? 25).map (fun i => (i.zero, i.size, i.bytes)) = some (some (InstL.mk 0 0 [] noRefL).v, 7, 88) := by kernel_rfl

/-- append onto a row of the call's own. -/
theorem run_app (w : World) (base : Nat) (ty : TypeId) (l m : List InstL) (v : Value) (A : Option Addr) (c : Nat) (hown : Owns w base v l) (hm : InstsAt w A m) (hlen : (l.length + m.length) * 88 ≤ 140737488355328) (hbase : base ≤ w.heap.size) :
    ∃ v' w', (Builtin.append_ #[34, 34] ty #[v, .slice A m.length c]).run Tryd.prog w = .ok v' w' ∧ Owns w' base v' (l ++ m) ∧ w.grownBy w' v.ownBlock ∧ (v'.ownBlock = v.ownBlock ∨ v'.ownBlock = some w.heap.size) := by
  obtain ⟨i0, hi0, hz0, hz1, hz2⟩ := info_parts inst_info
  cases A with
  | none =>
    have : m = [] := by
      apply Classical.byContradiction
      intro hne
      obtain ⟨_, _, h, _⟩ := hm hne
      cases h
    subst this
    refine ⟨v, w, ?_, by rw [List.append_nil]; exact hown, World.grownBy.refl w _, .inl rfl⟩
    rcases hown.2 with ⟨rfl, e⟩ | ⟨g, cap, cur, rfl, _, _, hnc, _⟩
    · simp [Builtin.append_, run_underlying Tryd.underlying34, sizeOf, typeInfo, hi0, Builtin.lenOf, Builtin.firstCells]
    · simp [Builtin.append_, run_underlying Tryd.underlying34, sizeOf, typeInfo, hi0, Builtin.lenOf, Builtin.firstCells, hnc, storeCells]
  | some ad =>
    obtain ⟨v', w', hrun, h2, h3, _, h5⟩ := run_append_own_at (P := Tryd.prog) w base 34 ty 25 i0 _ 7 88 Tryd.underlying34 hi0 hz0 hz1 hz2 rfl (by omega) v l.length _ hown ad m.length c _ (flat_length m) hm.flat (flat_one m)
      (by simp only [maxLen]; omega) hlen hbase
    exact ⟨v', w', hrun, by unfold Owns; rw [List.length_append, List.flatMap_append]; exact h2, h3, h5⟩

theorem wpList_app {ops : Array Oper} {rest : List Oper} {o : Oper} {a : Act} {Q : Exit → Act → World → Prop} (w : World) (hgd : o.guard = none) (s x : Operand)
    (ho : o.op = .call { callee := .builtin .append, args := #[s, x], argTypes := #[34, 34] })
    (base : Nat) (l m : List InstL) (v : Value) (A : Option Addr) (k c : Nat) (hs : a.eval s = v) (hown : Owns w base v l) (hx : a.eval x = .slice A k c) (hk : k = m.length) (hm : InstsAt w A m) (hlen : (l.length + m.length) * 88 ≤ 140737488355328) (hbase : base ≤ w.heap.size)
    (h : ∀ v' w', Owns w' base v' (l ++ m) → w.grownBy w' v.ownBlock → (v'.ownBlock = v.ownBlock ∨ v'.ownBlock = some w.heap.size) → wpList Tryd.prog ops Q rest (a.put o.dst v') w') : wpList Tryd.prog ops Q (o :: rest) a w := by
  subst hk
  obtain ⟨v', w', hrun, h2, h3, h4⟩ := run_app w base o.type l m v A c hown hm hlen hbase
  refine wpList_plain hgd fun K hK => ?_
  unfold Oper.wp execOp
  simp only [ho, resolve, invoke, builtin, Sem.run_bind, Sem.run_pure, Result.andThen_ok, List.map_toArray, List.map_cons, List.map_nil, hs, hx, hrun]
  exact hK _ _ (h v' w' h2 h3 h4)

theorem Owns.nil_ (w : World) (base : Nat) : Owns w base (.slice none 0 0) [] := ⟨rfl, .inl ⟨rfl, rfl⟩⟩
theorem Owns.alloc {w : World} {base : Nat} {v : Value} {l : List InstL} (h : Owns w base v l) (o : Obj) : Owns (w.alloc o) base v l := World.ownsRow.alloc h o
/-- What an owned row of instructions looks like. -/
theorem Owns.form {w : World} {base : Nat} {v : Value} {l : List InstL} (h : Owns w base v l) (n : Nat) (hn : l.length = n) (hl : 0 < n) :
    ∃ g cap, v = .slice (some ⟨g, 0, none⟩) n cap ∧ base ≤ g ∧ g < w.heap.size ∧ n ≤ cap ∧ InstsAt w (some ⟨g, 0, none⟩) l := by
  subst hn
  have h0 := h
  rcases h.2 with ⟨_, e⟩ | ⟨g, cap, cur, rfl, hb, hg, hc, _⟩
  · exact absurd e (by omega)
  · have hgl : g < w.heap.size := (Array.getElem?_eq_some_iff.1 hg).1
    refine ⟨g, cap, rfl, hb, hgl, hc, fun _ => ⟨g, 0, rfl, hgl, fun i hi j hj => ?_⟩⟩
    have hx := World.ownsRow.cells h0 (g := g) rfl
    have hfl := flat_get l i hi j hj
    have hlt : j < l[i].cells.size := by show j < 7; exact hj
    rw [Array.getElem?_eq_getElem hlt] at hfl ⊢
    have := hx _ _ hfl
    rw [add_none] at this
    rw [← this]
    congr 2
    omega
theorem InstsAt.head {w : World} {A : Option Addr} {l m : List InstL} (h : InstsAt w A (l ++ m)) : InstsAt w A l := by
  intro hl
  obtain ⟨b, o, e, hb, hc⟩ := h (by simp [hl])
  refine ⟨b, o, e, hb, fun i hi j hj => ?_⟩
  rw [hc i (by simp; omega) j hj, List.getElem_append_left hi]
theorem InstsAt.below {w : World} {bk off : Nat} {l : List InstL} {o : Obj} (h : InstsAt w (some ⟨bk, off, none⟩) l) : InstsAt (w.alloc o) (some ⟨bk, off, none⟩) l := h.upd ((Upd.refl _ _).alloc _)
end Go.Proofs.YtjjdlgjofjfgmaaDoor
