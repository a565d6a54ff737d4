/-
 What SpoilClass may write: rows of the class's own, whatever lies in them; plain laws.
-/
import Derived.Test.YtjjdlgjofjfgmaaGreatDoorCopyA
set_option linter.unusedSimpArgs false
set_option linter.unusedVariables false
namespace Go.Proofs.YtjjdlgjofjfgmaaGreatDoor
open Go.RowKit
def Row (w : World) (e : TypeId) (size : Nat) (v : Value) (n : Nat) : Prop := ∃ xs, w.ownsRow 0 e size v n xs
theorem Row.setCells {e : TypeId} {size g n cap : Nat} : ∀ (vs : List Value) (o : Nat) {w : World}, Row w e size (.slice (some ⟨g, 0, none⟩) n cap) n → Row (w.setCells g o vs) e size (.slice (some ⟨g, 0, none⟩) n cap) n
 | [], _, _, h => h
 | v :: r, o, w, ⟨xs, h⟩ => by
  rw [World.setCells]
  exact Row.setCells r (o + 1) ⟨_, (h.stored o v).1⟩
theorem Row.there {w : World} {e : TypeId} {size g n cap : Nat} (h : Row w e size (.slice (some ⟨g, 0, none⟩) n cap) n) (o k : Nat) (hk : o + k ≤ n * size) : w.there g o k := fun j hj => by
 obtain ⟨xs, h⟩ := h
 have hc := h.cellAt (o + j) (by omega)
 rw [List.getElem?_eq_getElem (by rw [h.1]; omega)] at hc
 exact ⟨by rw [hc]; rfl, h.frozenAt _⟩
theorem Row.other {w w' : World} {e : TypeId} {size n : Nat} {v : Value} (h : Row w e size v n) (hs : w.heap.size ≤ w'.heap.size) (hb : ∀ k, v.ownBlock = some k → w'.heap[k]? = w.heap[k]?) : Row w' e size v n := by
 obtain ⟨xs, h1, h2⟩ := h
 refine ⟨xs, h1, ?_⟩
 rcases h2 with h2 | ⟨g, cap, cur, rfl, hb0, hg, rest⟩
 ·exact .inl h2
 ·exact .inr ⟨g, cap, cur, rfl, hb0, (hb g rfl).trans hg, rest⟩
def ownF (vi vm : Value) (cs : List Value) : List Nat := Value.ob vi ++ (Value.ob vm ++ cs.flatMap Value.ob)
theorem Lists.updF {w w' : World} {n0 n1 : Nat} {r : RdS} {vi vm : Value} {cs : List Value} (h : Lists w n0 r vi vm cs) {F : List Nat} (u : Upd w w' F) (hF : ∀ b, b ∈ F → b < n1) (hn : n1 ≤ n0) : Lists w' n0 r vi vm cs :=
 ⟨
  h.len, u.own h.oi (fun k hk hm => by have h1 := h.bi k (mem_ob.1 hk); have h2 := hF k hm; omega), u.own h.om (fun k hk hm => by have h1 := h.bm k (mem_ob.1 hk); have h2 := hF k hm; omega),
  fun i hi => u.own (h.oc i hi) (fun k hk hm => by have h1 := h.bc i hi k (mem_ob.1 hk); have h2 := hF k hm; omega), h.bi, h.bm, h.bc, h.dis⟩
theorem ownF_lt {w : World} {n0 : Nat} {r : RdS} {vi vm : Value} {cs : List Value} (h : Lists w n0 r vi vm cs) : ∀ b, b ∈ ownF vi vm cs → b < w.heap.size := by
 intro b hb
 rcases List.mem_append.1 hb with hb | hb
 ·exact (h.oi.lt b (mem_ob.1 hb)).2
 ·rcases List.mem_append.1 hb with hb | hb
  ·exact (h.om.lt b (mem_ob.1 hb)).2
  ·obtain ⟨v, hv, hb⟩ := List.mem_flatMap.1 hb
   obtain ⟨i, hi, rfl⟩ := List.getElem_of_mem hv
   exact ((h.oc i hi).lt b (mem_ob.1 hb)).2
structure Apart (w : World) (F : List Nat) (vi vm : Value) (cs : List Value) : Prop where
 fi : ∀ b, vi.ownBlock = some b → b ∈ F
 fm : ∀ b, vm.ownBlock = some b → b ∈ F
 fc : ∀ i (hi : i < cs.length) b, cs[i].ownBlock = some b → b ∈ F
 lt : ∀ b, b ∈ F → b < w.heap.size
 im : ∀ b, vi.ownBlock = some b → vm.ownBlock ≠ some b
 ic : ∀ b, vi.ownBlock = some b → ∀ i (hi : i < cs.length), cs[i].ownBlock ≠ some b
 mc : ∀ b, vm.ownBlock = some b → ∀ i (hi : i < cs.length), cs[i].ownBlock ≠ some b
 cc : ∀ i j (hi : i < cs.length) (hj : j < cs.length), i ≠ j → ∀ b, cs[i].ownBlock = some b → cs[j].ownBlock ≠ some b
theorem Lists.apart {w : World} {n0 : Nat} {r : RdS} {vi vm : Value} {cs : List Value} (h : Lists w n0 r vi vm cs) : Apart w (ownF vi vm cs) vi vm cs :=
 ⟨
  fun b hb => List.mem_append_left _ (mem_ob.2 hb), fun b hb => List.mem_append_right _ (List.mem_append_left _ (mem_ob.2 hb)), fun i hi b hb => List.mem_append_right _ (List.mem_append_right _ (List.mem_flatMap.2 ⟨_, List.getElem_mem hi, mem_ob.2 hb⟩)), ownF_lt h,
  fun b hb hm => own_own_ne h.oi h.om (by decide) hb hm, fun b hb i hi hm => own_own_ne h.oi (h.oc i hi) (by decide) hb hm, fun b hb i hi hm => own_own_ne h.om (h.oc i hi) (by decide) hb hm, h.dis⟩
structure SpI (w : World) (F : List Nat) (cls : Array Value) (vi vm : Value) (ni nm : Nat) (cs : List Value) (ln : Nat → Nat) (k : Nat) (wr : World) : Prop where
 blk : Blk wr w.heap.size 25 cls
 os : Upd w wr F
 ri : Row wr 9 1 vi ni
 rm : Row wr 34 6 vm nm
 cell : ∀ i (hi : i < cs.length), k ≤ i → ∀ gm, vm.ownBlock = some gm → wr.cell? ⟨gm, i * 6 + 5, none⟩ = some cs[i]
 rc : ∀ i (hi : i < cs.length), k ≤ i → Row wr 41 7 cs[i] (ln i)
theorem seven_set (w : World) (g o : Nat) (a b c d e f h : Value) : (((((((w.setCell ⟨g, o, none⟩ a).setCell ⟨g, o + 1, none⟩ b).setCell ⟨g, o + 2, none⟩ c).setCell ⟨g, o + 3, none⟩ d).setCell ⟨g, o + 4, none⟩ e).setCell ⟨g, o + 5, none⟩ f).setCell ⟨g, o + 6, none⟩ h) = w.setCells g o [a, b, c, d, e, f, h] := rfl
theorem Row.at_ {w : World} {e : TypeId} {size g n cap : Nat} (h : Row w e size (.slice (some ⟨g, 0, none⟩) n cap) n) (o : Nat) (ho : o < n * size) : (∃ v, w.cell? ⟨g, o, none⟩ = some v) ∧ w.frozen? ⟨g, o, none⟩ = false := by
 obtain ⟨h1, h2⟩ := h.there o 1 (by omega) 0 (by omega)
 exact ⟨Option.isSome_iff_exists.1 h1, h2⟩
section
variable {w wr wr' : World} {F : List Nat} {cls : Array Value} {vi vm : Value} {ni nm : Nat} {cs : List Value} {ln : Nat → Nat} {k : Nat}
theorem SpI.far (h : SpI w F cls vi vm ni nm cs ln k wr) (hu : Upd w wr' F) (hs : wr.heap.size ≤ wr'.heap.size) (h0 : wr'.heap[w.heap.size]? = wr.heap[w.heap.size]?) (hi : ∀ b, vi.ownBlock = some b → wr'.heap[b]? = wr.heap[b]?) (hm : ∀ b, vm.ownBlock = some b → wr'.heap[b]? = wr.heap[b]?)
  (hc : ∀ i (hi : i < cs.length), k ≤ i → ∀ b, cs[i].ownBlock = some b → wr'.heap[b]? = wr.heap[b]?) : SpI w F cls vi vm ni nm cs ln k wr' :=
 ⟨h0.trans h.blk, hu, h.ri.other hs hi, h.rm.other hs hm, fun i hil hk gm hg => (World.cell?_of_block (a := ⟨gm, i * 6 + 5, none⟩) (hm gm hg)).trans (h.cell i hil hk gm hg), fun i hil hk => (h.rc i hil hk).other hs (hc i hil hk)⟩
theorem SpI.succ (h : SpI w F cls vi vm ni nm cs ln k wr) : SpI w F cls vi vm ni nm cs ln (k + 1) wr :=
 ⟨h.blk, h.os, h.ri, h.rm, fun i hi hk => h.cell i hi (by omega), fun i hi hk => h.rc i hi (by omega)⟩
theorem SpI.upd (h : SpI w F cls vi vm ni nm cs ln k wr) (ap : Apart w F vi vm cs) (u : Upd wr wr' []) : SpI w F cls vi vm ni nm cs ln k wr' := by
 have hlt : ∀ b, b ∈ F → b < wr.heap.size := fun b hb => Nat.lt_of_lt_of_le (ap.lt b hb) h.os.size
 have hb0 := h.blk.lt
 refine h.far ?_ u.size (u.block _ hb0 (by simp)) (fun b hb => u.block b (hlt b (ap.fi b hb)) (by simp)) (fun b hb => u.block b (hlt b (ap.fm b hb)) (by simp)) (fun i hi _ b hb => u.block b (hlt b (ap.fc i hi b hb)) (by simp))
 exact h.os.trans (u.mono (by simp))
theorem SpI.setCode (h : SpI w F cls vi vm ni nm cs ln k wr) (ap : Apart w F vi vm cs) (hk : k < cs.length) {g n cap : Nat} (hg : cs[k] = .slice (some ⟨g, 0, none⟩) n cap) (hn : ln k = n) (o : Nat) (vs : List Value) :
  SpI w F cls vi vm ni nm cs ln k (wr.setCells g o vs) := by
 have hgo : cs[k].ownBlock = some g := by rw [hg]; rfl
 have hgF := ap.fc k hk g hgo
 have hne0 : w.heap.size ≠ g := by have := ap.lt g hgF; omega
 have hother : ∀ b, b ≠ g → (wr.setCells g o vs).heap[b]? = wr.heap[b]? := fun b hb => heap_setCells g vs o wr b hb
 have hsz := size_setCells g vs o wr
 refine ⟨(hother _ hne0).trans h.blk, h.os.setCells' (.inl hgF) vs o, h.ri.other (by omega) (fun b hb => hother b (fun e => ap.ic b hb k hk (by rw [hgo, e]))), h.rm.other (by omega) (fun b hb => hother b (fun e => ap.mc b hb k hk (by rw [hgo, e]))), fun i hi hki gm hgm => ?_, fun i hi hki => ?_⟩
 ·exact (World.cell?_of_block (a := ⟨gm, i * 6 + 5, none⟩) (hother gm (fun e => ap.mc gm hgm k hk (by rw [hgo, e])))).trans (h.cell i hi hki gm hgm)
 ·by_cases hik : i = k
  ·subst hik
   have := h.rc i hi hki
   rw [hg, hn] at this ⊢
   exact this.setCells vs o
  ·exact (h.rc i hi hki).other (by omega) (fun b hb => hother b (fun e => ap.cc i k hi hk hik b hb (by rw [hgo, e])))
theorem SpI.setMeth (h : SpI w F cls vi vm ni nm cs ln (k + 1) wr) (ap : Apart w F vi vm cs) {g cap : Nat} (hg : vm = .slice (some ⟨g, 0, none⟩) nm cap) (vs : List Value) (hl : vs.length = 6) :
  SpI w F cls vi vm ni nm cs ln (k + 1) (wr.setCells g (k * 6) vs) := by
 have hgo : vm.ownBlock = some g := by rw [hg]; rfl
 have hgF := ap.fm g hgo
 have hne0 : w.heap.size ≠ g := by have := ap.lt g hgF; omega
 have hother : ∀ b, b ≠ g → (wr.setCells g (k * 6) vs).heap[b]? = wr.heap[b]? := fun b hb => heap_setCells g vs (k * 6) wr b hb
 have hsz := size_setCells g vs (k * 6) wr
 refine ⟨(hother _ hne0).trans h.blk, h.os.setCells' (.inl hgF) vs (k * 6), h.ri.other (by omega) (fun b hb => hother b (fun e => ap.im b hb (by rw [hgo, e]))), ?_, fun i hi hki gm hgm => ?_, fun i hi hki => ?_⟩
 ·have := h.rm
  rw [hg] at this ⊢
  exact this.setCells vs (k * 6)
 ·rw [hgo] at hgm
  cases hgm
  rw [World.cell?_setCells_out g vs (k * 6) wr ⟨g, i * 6 + 5, none⟩ (fun _ _ => .inr (by show k * 6 + vs.length ≤ i * 6 + 5; omega))]
  exact h.cell i hi hki g hgo
 ·exact (h.rc i hi hki).other (by omega) (fun b hb => hother b (fun e => ap.mc g hgo i hi (by rw [hb, e])))
theorem SpI.setIf (h : SpI w F cls vi vm ni nm cs ln k wr) (ap : Apart w F vi vm cs) {g cap : Nat} (hg : vi = .slice (some ⟨g, 0, none⟩) ni cap) (j : Nat) (u : Value) :
  SpI w F cls vi vm ni nm cs ln k (wr.setCell ⟨g, j, none⟩ u) := by
 have hgo : vi.ownBlock = some g := by rw [hg]; rfl
 have hgF := ap.fi g hgo
 have hne0 : w.heap.size ≠ g := by have := ap.lt g hgF; omega
 have hother : ∀ b, b ≠ g → (wr.setCell ⟨g, j, none⟩ u).heap[b]? = wr.heap[b]? := fun b hb => heap_setCell_other wr ⟨g, j, none⟩ b u hb
 refine ⟨(hother _ hne0).trans h.blk, h.os.setCell (.inl hgF) u, ?_, h.rm.other (by simp) (fun b hb => hother b (fun e => ap.im g hgo (by rw [hb, e]))), fun i hi hki gm hgm => ?_, fun i hi hki => ?_⟩
 ·obtain ⟨xs, h1⟩ := h.ri
  rw [hg] at h1 ⊢
  exact ⟨_, (h1.stored j u).1⟩
 ·exact (World.cell?_of_block (a := ⟨gm, i * 6 + 5, none⟩) (hother gm (fun e => ap.im g hgo (by rw [hgm, e])))).trans (h.cell i hi hki gm hgm)
 ·exact (h.rc i hi hki).other (by simp) (fun b hb => hother b (fun e => ap.ic g hgo i hi (by rw [hb, e])))
theorem SpI.grow (h : SpI w F cls vi vm ni nm cs ln (k + 1) wr) (ap : Apart w F vi vm cs) (hk : k < cs.length) {t : Value} {n : Nat} {xs : List Value} (hr : wr.ownsRow 0 41 7 t n xs) (hb : ∀ b, t.ownBlock = some b → cs[k].ownBlock = some b ∨ w.heap.size ≤ b) {o : Obj} (hg : (wr.alloc o).grownBy wr' t.ownBlock) :
  SpI w F cls vi vm ni nm cs ln (k + 1) wr' := by
 have ha := (Upd.refl wr []).alloc o
 have hr' : (wr.alloc o).ownsRow 0 41 7 t n xs := ha.own hr (fun _ _ => by simp)
 have hlt : ∀ b, b ∈ F → b < wr.heap.size := fun b hb => Nat.lt_of_lt_of_le (ap.lt b hb) h.os.size
 have hstep : ∀ b, b < wr.heap.size → t.ownBlock ≠ some b → wr'.heap[b]? = wr.heap[b]? := fun b hb hne => by
  refine (hg.block b (by simp; omega) (fun e => hne e.symm)).trans (Below.heap_alloc wr o b hb)
 refine h.far ?_ (by have := hg.size; simp at this; omega) (hstep _ h.blk.lt (own_blk_ne hr h.blk (by decide))) (fun b hb' => ?_) (fun b hb' => ?_) (fun i hi hki b hb' => ?_)
 ·exact (h.os.alloc o).grown hg (fun b hb' => (hb b hb').imp (ap.fc k hk b) id)
 ·obtain ⟨ys, hi⟩ := h.ri
  exact hstep b (hlt b (ap.fi b hb')) (own_own_ne hi hr (by decide) hb')
 ·obtain ⟨ys, hm⟩ := h.rm
  exact hstep b (hlt b (ap.fm b hb')) (own_own_ne hm hr (by decide) hb')
 ·refine hstep b (hlt b (ap.fc i hi b hb')) (fun e => ?_)
  rcases hb b e with h1 | h1
  ·exact ap.cc i k hi hk (by omega) b hb' h1
  ·have := ap.lt b (ap.fc i hi b hb')
   omega
end
end Go.Proofs.YtjjdlgjofjfgmaaGreatDoor
