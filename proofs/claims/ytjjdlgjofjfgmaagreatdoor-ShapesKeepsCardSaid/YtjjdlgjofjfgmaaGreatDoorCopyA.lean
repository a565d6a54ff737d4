/-
 What the document's Copy of a class keeps in memory; plain laws.
-/
import Derived.Test.YtjjdlgjofjfgmaaGreatDoorMemB
import Derived.Test.YtjjdlgjofjfgmaaGreatDoorOpenD
import Derived.Test.YtjjdlgjofjfgmaaGreatDoorKQ
import Derived.Deep.MidRow
set_option linter.unusedSimpArgs false
set_option linter.unusedVariables false
namespace Go.Proofs.YtjjdlgjofjfgmaaGreatDoor
open Go.RowKit
theorem Upd.setCells {a : World} {F : List Nat} {b : Nat} (hb : a.heap.size ≤ b) : ∀ (vs : List Value) (o : Nat) {w : World}, Upd a w F → Upd a (w.setCells b o vs) F
 | [], _, _, h => h
 | v :: r, o, w, h => by
  rw [World.setCells]
  exact Upd.setCells hb r (o + 1) (h.setCell (.inr hb) v)
theorem Upd.setCells' {a : World} {F : List Nat} {b : Nat} (hb : b ∈ F ∨ a.heap.size ≤ b) : ∀ (vs : List Value) (o : Nat) {w : World}, Upd a w F → Upd a (w.setCells b o vs) F
 | [], _, _, h => h
 | v :: r, o, w, h => by
  rw [World.setCells]
  exact Upd.setCells' hb r (o + 1) (h.setCell hb v)
theorem heap_setCells (b : Nat) : ∀ (vs : List Value) (o : Nat) (w : World) (k : Nat), k ≠ b → (w.setCells b o vs).heap[k]? = w.heap[k]?
 | [], _, _, _, _ => rfl
 | v :: r, o, w, k, h => by
  rw [World.setCells, heap_setCells b r (o + 1) _ k h, heap_setCell_other w ⟨b, o, none⟩ k v h]
theorem size_setCells (b : Nat) : ∀ (vs : List Value) (o : Nat) (w : World), (w.setCells b o vs).heap.size = w.heap.size
 | [], _, _ => rfl
 | v :: r, o, w => by
  rw [World.setCells, size_setCells b r (o + 1)]
  simp
theorem Upd.there {w w' : World} (u : Upd w w' []) {b o n : Nat} (hb : b < w.heap.size) (h : w.there b o n) : w'.there b o n := fun j hj => by
 obtain ⟨h1, h2⟩ := h j hj
 have hk := u.block b hb (by simp)
 exact ⟨by rw [World.cell?_of_block (w := w) (w' := w') (a := ⟨b, o + j, none⟩) hk]; exact h1, by rw [World.frozen?_of_block (w := w) (w' := w') (a := ⟨b, o + j, none⟩) hk]; exact h2⟩
structure CopyI (n : Nat) (src : List MethL) (g k : Nat) (ms : List MethL) (w : World) : Prop where
 len : ms.length = k
 lt : g < w.heap.size
 at_ : ∀ i (h : i < ms.length), ∀ j, j < 6 → w.cell? ⟨g, i * 6 + j, none⟩ = ms[i].cells[j]?
 th : w.there g 0 (n * 6)
 fit : ∀ m, m ∈ ms → m.fit w
 code : ∀ m, m ∈ ms → m.code ≠ [] → ∃ b off, m.A = some ⟨b, off, none⟩ ∧ g < b
 same : ms.map methSOf = (src.take k).map methSOf
theorem CopyI.upd {n : Nat} {src : List MethL} {g k : Nat} {ms : List MethL} {w w' : World} (h : CopyI n src g k ms w) (u : Upd w w' []) : CopyI n src g k ms w' :=
 ⟨h.len, Nat.lt_of_lt_of_le h.lt u.size, fun i hi j hj => by rw [u.cells.1 g _ h.lt]; exact h.at_ i hi j hj, u.there h.lt h.th, fun m hm => (h.fit m hm).upd u, h.code, h.same⟩
theorem InstsAt.other {w w' : World} {A : Option Addr} {l : List InstL} (h : InstsAt w A l) {g : Nat} (hs : w.heap.size ≤ w'.heap.size) (hb : ∀ k, k ≠ g → w'.heap[k]? = w.heap[k]?) (hA : l ≠ [] → ∃ b off, A = some ⟨b, off, none⟩ ∧ b ≠ g) : InstsAt w' A l := by
 intro hl
 obtain ⟨bk, off, e, hlt, hc⟩ := h hl
 obtain ⟨b, off', e', hne⟩ := hA hl
 rw [e] at e'
 cases e'
 refine ⟨bk, off, e, Nat.lt_of_lt_of_le hlt hs, fun i hi j hj => ?_⟩
 rw [World.cell?_of_block (w := w) (w' := w') (a := ⟨bk, off + i * 7 + j, none⟩) (hb bk hne)]
 exact hc i hi j hj
theorem MethL.fit.other {w w' : World} {m : MethL} (h : m.fit w) {g : Nat} (hs : w.heap.size ≤ w'.heap.size) (hb : ∀ k, k ≠ g → w'.heap[k]? = w.heap[k]?) (hA : m.code ≠ [] → ∃ b off, m.A = some ⟨b, off, none⟩ ∧ b ≠ g) : m.fit w' :=
 ⟨h.at_.other hs hb hA, h.cap, h.fits, h.nums, h.len, h.nm, h.ds, h.num⟩
theorem above {p : Prop} {A : Option Addr} {g g' : Nat} (hg : g' ≤ g) (h : p → ∃ b off, A = some ⟨b, off, none⟩ ∧ g < b) : p → ∃ b off, A = some ⟨b, off, none⟩ ∧ b ≠ g' := fun hp => by
 obtain ⟨b, off, e, hb⟩ := h hp
 exact ⟨b, off, e, by omega⟩
theorem CopyI.six {n : Nat} {src : List MethL} {g k : Nat} {ms : List MethL} {w w6 : World} (h : CopyI n src g k ms w) (hk : k < n) (vs : List Value) (h6 : w6.heap = (w.setCells g (k * 6) vs).heap) :
  (∀ q, q ≠ g → w6.heap[q]? = w.heap[q]?) ∧ w6.heap.size = w.heap.size ∧ w6.there g (k * 6) 6 ∧ g < w6.heap.size := by
 refine ⟨fun q hq => by rw [h6]; exact heap_setCells g vs (k * 6) w q hq, by rw [h6, size_setCells], fun j hj => ?_, by rw [h6, size_setCells]; exact h.lt⟩
 have := (World.there_setCells h.th g (k * 6) vs) (k * 6 + j) (by omega)
 rw [Nat.zero_add] at this
 have e1 : w6.cell? ⟨g, k * 6 + j, none⟩ = (w.setCells g (k * 6) vs).cell? ⟨g, k * 6 + j, none⟩ := by unfold World.cell?; rw [h6]
 have e2 : w6.frozen? ⟨g, k * 6 + j, none⟩ = (w.setCells g (k * 6) vs).frozen? ⟨g, k * 6 + j, none⟩ := by unfold World.frozen?; rw [h6]
 exact ⟨by rw [e1]; exact this.1, by rw [e2]; exact this.2⟩
theorem CopyI.step {n : Nat} {src : List MethL} {g k : Nat} {ms : List MethL} {w w1 w2 : World} (h : CopyI n src g k ms w) (hk : k < n) (hks : k < src.length) {m : MethL} (hm : src[k] = m) (h1 : w1.heap = (w.setCells g (k * 6) m.cells.toList).heap) (u : Upd w1 w2 []) (A' : Option Addr) (cap' : Nat)
  (hfit : (⟨m.nm, m.ds, m.fl, m.lo, m.st, A', cap', m.code⟩ : MethL).fit w2) (hne : m.code ≠ [] → ∃ b off, A' = some ⟨b, off, none⟩ ∧ g < b) :
  CopyI n src g (k + 1) (ms ++ [⟨m.nm, m.ds, m.fl, m.lo, m.st, A', cap', m.code⟩]) (w2.setCell ⟨g, k * 6 + 5, none⟩ (.slice A' m.code.length cap')) := by
 have hlt := h.lt
 have hs1 : w1.heap.size = w.heap.size := by rw [h1, size_setCells]
 have hlt1 : g < w1.heap.size := by omega
 have hlt2 : g < w2.heap.size := Nat.lt_of_lt_of_le hlt1 u.size
 have hcl : m.cells.toList.length = 6 := rfl
 have hth : w.there g (k * 6) 6 := fun j hj => by
  have := h.th (k * 6 + j) (by omega)
  rwa [Nat.zero_add] at this
 have cell1 : ∀ x : Addr, w1.cell? x = (w.setCells g (k * 6) m.cells.toList).cell? x := fun x => by
  unfold World.cell?
  rw [h1]
 have froz1 : ∀ x : Addr, w1.frozen? x = (w.setCells g (k * 6) m.cells.toList).frozen? x := fun x => by
  unfold World.frozen?
  rw [h1]
 have hin : ∀ j, j < 6 → w2.cell? ⟨g, k * 6 + j, none⟩ = m.cells[j]? := fun j hj => by
  rw [u.cells.1 g _ hlt1, cell1, World.cell?_setCells_in g m.cells.toList (k * 6) w (fun i hi => (hth i (by omega)).1) j (by omega), ← List.getElem?_eq_getElem, Array.getElem?_toList]
 have hout : ∀ o, o < k * 6 → w2.cell? ⟨g, o, none⟩ = w.cell? ⟨g, o, none⟩ := fun o ho => by
  rw [u.cells.1 g _ hlt1, cell1, World.cell?_setCells_out g m.cells.toList (k * 6) w ⟨g, o, none⟩ (fun _ _ => .inl ho)]
 have h5 : w2.cell? ⟨g, k * 6 + 5, none⟩ = some (.slice m.A m.code.length m.cap) := hin 5 (by omega)
 have hblk : ∀ q, q ≠ g → (w2.setCell ⟨g, k * 6 + 5, none⟩ (.slice A' m.code.length cap')).heap[q]? = w2.heap[q]? := fun q hq => heap_setCell_other w2 ⟨g, k * 6 + 5, none⟩ q _ hq
 refine ⟨by rw [List.length_append, h.len]; rfl, by simpa using hlt2, fun i hi j hj => ?_, ?_, fun x hx => ?_, fun x hx => ?_, ?_⟩
 ·have hml := h.len
  by_cases hik : i < ms.length
  ·rw [List.getElem_append_left hik]
   rw [World.cell?_setCell_other _ _ _ _ (fun e => by injection e with _ e2 _; omega), hout (i * 6 + j) (by omega)]
   exact h.at_ i hik j hj
  ·have hik2 : i = k := by simp at hi; omega
   subst hik2
   rw [List.getElem_append_right (by omega)]
   simp only [hml, Nat.sub_self, List.getElem_cons_zero]
   by_cases hj5 : j = 5
   ·subst hj5
    rw [World.cell?_setCell_same _ _ _ h5]
    rfl
   ·rw [World.cell?_setCell_other _ _ _ _ (fun e => by injection e with _ e2 _; omega), hin j hj]
    match j, hj, hj5 with
    | 0, _, _ => rfl
    | 1, _, _ => rfl
    | 2, _, _ => rfl
    | 3, _, _ => rfl
    | 4, _, _ => rfl
    | 5, _, h => exact absurd rfl h
    | n + 6, h, _ => exact absurd h (by omega)
 ·intro j hj
  obtain ⟨t1, t2⟩ := (World.there_setCells h.th g (k * 6) m.cells.toList) j hj
  have e1 : w2.cell? ⟨g, 0 + j, none⟩ = (w.setCells g (k * 6) m.cells.toList).cell? ⟨g, 0 + j, none⟩ := by rw [u.cells.1 g _ hlt1, cell1]
  have e2 : w2.frozen? ⟨g, 0 + j, none⟩ = (w.setCells g (k * 6) m.cells.toList).frozen? ⟨g, 0 + j, none⟩ := by
   rw [World.frozen?_of_block (w := w1) (w' := w2) (a := ⟨g, 0 + j, none⟩) (u.block g hlt1 (by simp)), froz1]
  have := World.isSome_setCells g [.slice A' m.code.length cap'] (k * 6 + 5) w2 ⟨g, 0 + j, none⟩ (by rw [e1]; exact t1)
  exact ⟨this, by rw [World.frozen?_setCell, e2]; exact t2⟩
 ·rcases List.mem_append.1 hx with hx | hx
  ·exact (((h.fit x hx).other (w' := w1) (g := g) (by omega) (fun q hq => by rw [h1, heap_setCells g _ _ w q hq]) (above (Nat.le_refl _) (h.code x hx))).upd u).other (g := g) (by simp) hblk (above (Nat.le_refl _) (h.code x hx))
  ·simp only [List.mem_singleton] at hx
   subst hx
   exact hfit.other (g := g) (by simp) hblk (above (Nat.le_refl _) hne)
 ·rcases List.mem_append.1 hx with hx | hx
  ·exact h.code x hx
  ·simp only [List.mem_singleton] at hx
   subst hx
   exact hne
 ·rw [List.map_append, h.same, List.take_succ_eq_append_getElem hks, List.map_append, hm]
  rfl
theorem StrsAt.src {w : World} {A : Option Addr} {l : List (List UInt8)} (h : StrsAt w A l) : l.map strV ≠ [] → ∃ ad, A = some ad ∧ ∀ j u, (l.map strV)[j]? = some u → w.cell? (ad.add j) = some u := by
 intro hne
 obtain ⟨bk, off, e, -, hc⟩ := h (fun e => hne (by rw [e]; rfl))
 refine ⟨_, e, fun j u hj => ?_⟩
 rw [Addr.add_mid]
 have hjl : j < l.length := by have := (List.getElem?_eq_some_iff.1 hj).1; simpa using this
 rw [List.getElem?_map, List.getElem?_eq_getElem hjl] at hj
 rw [hc j hjl]
 exact hj
theorem strs_one (l : List (List UInt8)) : ∀ u ∈ l.map strV, u.oneCell' = true := by
 intro u hu
 obtain ⟨x, -, rfl⟩ := List.mem_map.1 hu
 rfl
theorem instV_length : ∀ l : List InstL, (instV l).length = l.length * 7
 | [] => rfl
 | i :: t => by
  show (i.cells.toList ++ instV t).length = _
  rw [List.length_append, instV_length t, List.length_cons]
  show 7 + _ = _
  omega
theorem instV_one : ∀ (l : List InstL), ∀ u ∈ instV l, u.oneCell' = true := by
 intro l u hu
 obtain ⟨i, -, hu⟩ := List.mem_flatMap.1 hu
 simp only [InstL.cells, List.mem_cons, List.not_mem_nil, or_false] at hu
 rcases hu with rfl | rfl | rfl | rfl | rfl | rfl | rfl <;> rfl
theorem InstsAt.src {w : World} {A : Option Addr} {l : List InstL} (h : InstsAt w A l) : instV l ≠ [] → ∃ ad, A = some ad ∧ ∀ j u, (instV l)[j]? = some u → w.cell? (ad.add j) = some u := by
 intro hne
 obtain ⟨bk, off, e, -, hc⟩ := h (fun e => hne (by rw [e]; rfl))
 refine ⟨_, e, fun j u hj => ?_⟩
 rw [Addr.add_mid]
 have hjl : j < l.length * 7 := by have := (List.getElem?_eq_some_iff.1 hj).1; rwa [instV_length] at this
 have hi : j / 7 < l.length := by omega
 have hr : j % 7 < 7 := by omega
 have e2 := instV_get l (j / 7) hi (j % 7) hr
 rw [show j / 7 * 7 + j % 7 = j by omega] at e2
 rw [e2] at hj
 have := hc (j / 7) hi (j % 7) hr
 rw [show off + j / 7 * 7 + j % 7 = off + j by omega] at this
 rw [this]
 exact hj
theorem own_weak {w : World} {base : Nat} {e : TypeId} {size n : Nat} {v : Value} {xs : List Value} (h : w.ownsRow base e size v n xs) : w.ownsRow 0 e size v n xs := by
 obtain ⟨h1, h2⟩ := h
 rcases h2 with h2 | ⟨g, cap, cur, rfl, hb, rest⟩
 ·exact ⟨h1, .inl h2⟩
 ·exact ⟨h1, .inr ⟨g, cap, cur, rfl, Nat.zero_le _, rest⟩⟩
theorem own_base {w : World} {base : Nat} {e : TypeId} {size n : Nat} {v : Value} {xs : List Value} (h : w.ownsRow base e size v n xs) : ∀ k, v.ownBlock = some k → base ≤ k := by
 rcases h.2 with ⟨rfl, _⟩ | ⟨g, cap, cur, rfl, hb, _⟩
 ·intro k hk; simp [Value.ownBlock] at hk
 ·intro k hk; simp [Value.ownBlock] at hk; omega
theorem insts_own {w : World} {base cap : Nat} {A : Option Addr} {l : List InstL} (h : w.ownsRow base 41 7 (.slice A l.length cap) l.length (instV l)) : InstsAt w A l ∧ (l ≠ [] → ∃ b off, A = some ⟨b, off, none⟩ ∧ base ≤ b) := by
 have key : l ≠ [] → ∃ g, A = some ⟨g, 0, none⟩ ∧ g < w.heap.size ∧ base ≤ g ∧ ∀ j, j < l.length * 7 → w.cell? ⟨g, j, none⟩ = (instV l)[j]? := fun hne => by
  obtain ⟨g, cap', hv, -, -, hlt⟩ := own_form h (List.length_pos_iff.2 hne)
  cases hv
  exact ⟨g, rfl, hlt, own_base h g rfl, fun j hj => h.cellAt j hj⟩
 refine ⟨fun hne => ?_, fun hne => ?_⟩
 ·obtain ⟨g, rfl, hlt, -, hc⟩ := key hne
  refine ⟨g, 0, rfl, hlt, fun i hi j hj => ?_⟩
  rw [Nat.zero_add, hc (i * 7 + j) (by omega)]
  exact instV_get l i hi j hj
 ·obtain ⟨g, rfl, -, hb, -⟩ := key hne
  exact ⟨g, 0, rfl, hb⟩
theorem own_lt_some {w : World} {base : Nat} {e : TypeId} {size n cap g : Nat} {xs : List Value} (h : w.ownsRow base e size (.slice (some ⟨g, 0, none⟩) n cap) n xs) : g < w.heap.size := by
 rcases h.2 with ⟨h2, _⟩ | ⟨g', cap', cur, hv, hb, hg, _⟩
 ·cases h2
 ·cases hv
  exact (Array.getElem?_eq_some_iff.1 hg).1
theorem six_set (w : World) (g o : Nat) (a b c d e f : Value) : ((((((w.setCell ⟨g, o, none⟩ a).setCell ⟨g, o + 1, none⟩ b).setCell ⟨g, o + 2, none⟩ c).setCell ⟨g, o + 3, none⟩ d).setCell ⟨g, o + 4, none⟩ e).setCell ⟨g, o + 5, none⟩ f) = w.setCells g o [a, b, c, d, e, f] := rfl
theorem strs_own {w : World} {base cap : Nat} {A : Option Addr} {l : List (List UInt8)} (h : w.ownsRow base 9 1 (.slice A l.length cap) l.length (l.map strV)) : StrsAt w A l := by
 intro hne
 obtain ⟨g, cap', hv, -, -, hlt⟩ := own_form h (List.length_pos_iff.2 hne)
 cases hv
 refine ⟨g, 0, rfl, hlt, fun i hi => ?_⟩
 rw [Nat.zero_add, h.cellAt i (by omega), List.getElem?_map, List.getElem?_eq_getElem hi]
 rfl
theorem StrsAt.other {w w' : World} {A : Option Addr} {l : List (List UInt8)} (h : StrsAt w A l) {g : Nat} (hs : w.heap.size ≤ w'.heap.size) (hb : ∀ k, k ≠ g → w'.heap[k]? = w.heap[k]?) (hA : l ≠ [] → ∃ b off, A = some ⟨b, off, none⟩ ∧ b ≠ g) : StrsAt w' A l := by
 intro hl
 obtain ⟨bk, off, e, hlt, hc⟩ := h hl
 obtain ⟨b, off', e', hne⟩ := hA hl
 rw [e] at e'
 cases e'
 refine ⟨bk, off, e, Nat.lt_of_lt_of_le hlt hs, fun i hi => ?_⟩
 rw [World.cell?_of_block (w := w) (w' := w') (a := ⟨bk, off + i, none⟩) (hb bk hne)]
 exact hc i hi
theorem own_cap {w : World} {base : Nat} {e : TypeId} {size n cap : Nat} {A : Option Addr} {xs : List Value} (h : w.ownsRow base e size (.slice A n cap) n xs) : n ≤ cap := by
 obtain ⟨A', cap', hv, hc, -⟩ := own_slice h
 cases hv
 exact hc
theorem own_heap {w W : World} {base : Nat} {e : TypeId} {size n : Nat} {v : Value} {xs : List Value} (h : w.ownsRow base e size v n xs) (hh : W.heap = w.heap) : W.ownsRow base e size v n xs := by
 refine ⟨h.1, ?_⟩
 rcases h.2 with h2 | ⟨g, cap, cur, hv, hb, hg, rest⟩
 ·exact .inl h2
 ·exact .inr ⟨g, cap, cur, hv, hb, by rw [hh]; exact hg, rest⟩
theorem upd_of_grown {w W w' : World} {o : Obj} {row : Option Nat} (hh : W.heap = (w.alloc o).heap) (h1 : W.os = w.os) (h2 : W.tape = w.tape) (h3 : W.output = w.output) (hg : W.grownBy w' row) (hr : ∀ k, row = some k → w.heap.size ≤ k) : Upd w w' [] := by
 have hs : W.heap.size = w.heap.size + 1 := by rw [hh]; simp
 refine ⟨hg.os.trans h1, hg.tape.trans h2, hg.output.trans h3, by have := hg.size; omega, fun b hb _ => ?_⟩
 refine (hg.block b (by omega) (fun e => ?_)).trans ?_
 ·have := hr b e.symm
  omega
 ·rw [hh]
  exact Below.heap_alloc w o b hb
theorem CopyI.code_step {n : Nat} {src : List MethL} {g k : Nat} {ms : List MethL} {wr w6 W w' w5 : World} {mn md : List UInt8} {mf ml mt : Int} {MA : Option Addr} {mc : Nat} {code : List InstL} (h : CopyI n src g k ms wr) (hk : k < n) (hks : k < src.length) (hm : src[k] = MethL.mk mn md mf ml mt MA mc code)
  (h6 : w6.heap = (wr.setCells g (k * 6) (MethL.mk mn md mf ml mt MA mc code).cells.toList).heap) (hf : src[k].fit w5) {A' : Option Addr} {cap' : Nat} {row : Option Nat} (hh : W.heap = (w6.alloc (.cells #[] 41)).heap) (h1 : W.os = w6.os) (h2 : W.tape = w6.tape) (h3 : W.output = w6.output) (hg : W.grownBy w' row) (hr : ∀ k, row = some k → w6.heap.size ≤ k)
  (ho : w'.ownsRow w6.heap.size 41 7 (.slice A' code.length cap') code.length (instV code)) :
  Upd w6 w' [] ∧ CopyI n src g (k + 1) (ms ++ [⟨mn, md, mf, ml, mt, A', cap', code⟩]) (w'.setCell ⟨g, k * 6 + 5, none⟩ (.slice A' code.length cap')) := by
 have u := upd_of_grown hh h1 h2 h3 hg hr
 obtain ⟨ha, hb⟩ := insts_own ho
 have hgl : g < w6.heap.size := by rw [h6, size_setCells]; exact h.lt
 rw [hm] at hf
 refine ⟨u, h.step hk hks hm h6 u A' cap' ⟨ha, own_cap ho, hf.fits, hf.nums, hf.len, hf.nm, hf.ds, hf.num⟩ (fun hne => ?_)⟩
 obtain ⟨b, off, e, hle⟩ := hb hne
 exact ⟨b, off, e, by omega⟩
theorem six_blk {w : World} {g : Nat} {t : TypeId} {cs : Array Value} (a b c d e f : Value) (h : Blk w g t cs) : Blk (w.setCells g 0 [a, b, c, d, e, f]) g t ((((((cs.setIfInBounds 0 a).setIfInBounds 1 b).setIfInBounds 2 c).setIfInBounds 3 d).setIfInBounds 4 e).setIfInBounds 5 f) :=
 (((((h.set_ 0 a).set_ 1 b).set_ 2 c).set_ 3 d).set_ 4 e).set_ 5 f
theorem six_set0 (w : World) (g : Nat) (a b c d e f : Value) : ((((((w.setCell ⟨g, 0, none⟩ a).setCell ⟨g, 1, none⟩ b).setCell ⟨g, 2, none⟩ c).setCell ⟨g, 3, none⟩ d).setCell ⟨g, 4, none⟩ e).setCell ⟨g, 5, none⟩ f) = w.setCells g 0 [a, b, c, d, e, f] := rfl
theorem six_blk6 {w : World} {g : Nat} {t : TypeId} {x0 x1 x2 x3 x4 x5 : Value} (a b c d e f : Value) (h : Blk w g t #[x0, x1, x2, x3, x4, x5]) : Blk (w.setCells g 0 [a, b, c, d, e, f]) g t #[a, b, c, d, e, f] := by
 have := six_blk a b c d e f h
 simpa using this
end Go.Proofs.YtjjdlgjofjfgmaaGreatDoor
