/-
 What the document's Roomy keeps in memory; plain laws.
-/
import Derived.Test.YtjjdlgjofjfgmaaGreatDoorCopyA
set_option linter.unusedSimpArgs false
set_option linter.unusedVariables false
namespace Go.Proofs.YtjjdlgjofjfgmaaGreatDoor
open Go.RowKit
theorem InstsAt.front {w : World} {A : Option Addr} {l m : List InstL} (h : InstsAt w A (l ++ m)) : InstsAt w A l := by
 intro hne
 obtain ⟨bk, off, e, hlt, hc⟩ := h (fun e => hne (List.append_eq_nil_iff.1 e).1)
 refine ⟨bk, off, e, hlt, fun i hi j hj => ?_⟩
 rw [hc i (by rw [List.length_append]; omega) j hj, List.getElem_append_left hi]
theorem instV_app (a b : List InstL) : instV (a ++ b) = instV a ++ instV b := List.flatMap_append
def markI : List InstL := [⟨-71, 0, [], noRefL⟩, ⟨-72, 0, [], noRefL⟩]
def m71 : List UInt8 := [35, 55, 49]
def m72 : List UInt8 := [35, 55, 50]
def markM (l : List UInt8) : MethL := ⟨l, [], 0, 0, 0, none, 0, []⟩
def codeW (m : MethL) : Value := .slice m.A (m.code.length + 2) m.cap
theorem codeW_one (m : MethL) : ∀ u ∈ [codeW m], u.oneCell' = true := by
 intro u hu
 rw [List.mem_singleton.1 hu]
 rfl
def methsV (l : List MethL) : List Value := l.flatMap fun m => m.cells.toList
theorem methsV_length : ∀ l : List MethL, (methsV l).length = l.length * 6
 | [] => rfl
 | m :: t => by
  show (m.cells.toList ++ methsV t).length = _
  rw [List.length_append, methsV_length t, List.length_cons]
  show 6 + _ = _
  omega
theorem methsV_get : ∀ (l : List MethL) (i : Nat) (h : i < l.length) (j : Nat), j < 6 → (methsV l)[i * 6 + j]? = l[i].cells[j]?
 | m :: t, 0, _, j, hj => by
  show (m.cells.toList ++ methsV t)[0 * 6 + j]? = _
  rw [List.getElem?_append_left (by show 0 * 6 + j < 6; omega), Nat.zero_mul, Nat.zero_add, Array.getElem?_toList]
  rfl
 | m :: t, i + 1, h, j, hj => by
  show (m.cells.toList ++ methsV t)[(i + 1) * 6 + j]? = _
  rw [List.getElem?_append_right (by show 6 ≤ (i + 1) * 6 + j; omega)]
  show (methsV t)[(i + 1) * 6 + j - 6]? = _
  rw [show (i + 1) * 6 + j - 6 = i * 6 + j by omega, methsV_get t i (by simpa using h) j hj]
  rfl
theorem methsV_append (a b : List MethL) : methsV (a ++ b) = methsV a ++ methsV b := List.flatMap_append
theorem meths_own {w : World} {base cap n : Nat} {A : Option Addr} {l : List MethL} {xs : List Value} (h : w.ownsRow base 34 6 (.slice A n cap) n (methsV l ++ xs)) (hn : l.length ≤ n) : MethsAt w A l := by
 intro hne
 obtain ⟨g, cap', hv, -, -, hlt⟩ := own_form h (Nat.lt_of_lt_of_le (List.length_pos_iff.2 hne) hn)
 cases hv
 refine ⟨g, 0, rfl, hlt, fun i hi j hj => ?_⟩
 rw [Nat.zero_add, h.cellAt (i * 6 + j) (by omega), List.getElem?_append_left (by rw [methsV_length]; omega)]
 exact methsV_get l i hi j hj
theorem strs_own2 {w : World} {base cap n : Nat} {A : Option Addr} {l : List (List UInt8)} {xs : List Value} (h : w.ownsRow base 9 1 (.slice A n cap) n (l.map strV ++ xs)) (hn : l.length ≤ n) : StrsAt w A l := by
 intro hne
 obtain ⟨g, cap', hv, -, -, hlt⟩ := own_form h (Nat.lt_of_lt_of_le (List.length_pos_iff.2 hne) hn)
 cases hv
 refine ⟨g, 0, rfl, hlt, fun i hi => ?_⟩
 rw [Nat.zero_add, h.cellAt i (by omega), List.getElem?_append_left (by simpa using hi), List.getElem?_map, List.getElem?_eq_getElem hi]
 rfl
theorem insts_own2 {w : World} {base cap : Nat} {A : Option Addr} {l : List InstL} (h : w.ownsRow base 41 7 (.slice A (l.length + 2) cap) (l.length + 2) (instV (l ++ markI))) : InstsAt w A (l ++ markI) := by
 have e : l.length + 2 = (l ++ markI).length := by rw [List.length_append]; rfl
 rw [e] at h
 exact (insts_own h).1
theorem own_mono {w : World} {base base' : Nat} {e : TypeId} {size n : Nat} {v : Value} {xs : List Value} (h : w.ownsRow base e size v n xs) (hb : base' ≤ base) : w.ownsRow base' e size v n xs := by
 obtain ⟨h1, h2⟩ := h
 rcases h2 with h2 | ⟨g, cap, cur, rfl, hb', rest⟩
 ·exact ⟨h1, .inl h2⟩
 ·exact ⟨h1, .inr ⟨g, cap, cur, rfl, Nat.le_trans hb hb', rest⟩⟩
theorem methsV_one (l : List MethL) : ∀ u ∈ methsV l, u.oneCell' = true := by
 intro u hu
 obtain ⟨m, -, hu⟩ := List.mem_flatMap.1 hu
 simp only [MethL.cells, List.mem_cons, List.not_mem_nil, or_false] at hu
 rcases hu with rfl | rfl | rfl | rfl | rfl | rfl <;> rfl
def CodesAt (base : Nat) (ms : List MethL) (w : World) : Prop := ∀ m, m ∈ ms → w.ownsRow base 41 7 (codeW m) (m.code.length + 2) (instV (m.code ++ markI))
theorem CodesAt.upd {base : Nat} {ms : List MethL} {w w' : World} (h : CodesAt base ms w) (u : Upd w w' []) : CodesAt base ms w' := fun m hm => u.own (h m hm) (fun _ _ => by simp)
theorem CodesAt.set {base : Nat} {ms : List MethL} {w : World} (h : CodesAt base ms w) {g : Nat} {t : TypeId} {cs : Array Value} (hb : Blk w g t cs) (hne : 41 ≠ t) (o : Nat) (v : Value) : CodesAt base ms (w.setCell ⟨g, o, none⟩ v) :=
 fun m hm => ownsRow_setCell_other (h m hm) (own_blk_ne (h m hm) hb hne) v
theorem CodesAt.grown {base base' : Nat} {ms : List MethL} {w w' : World} (h : CodesAt base ms w) {e : TypeId} {size n : Nat} {v : Value} {xs : List Value} (hg : w.grownBy w' v.ownBlock) (ho : w.ownsRow base' e size v n xs) (hne : 41 ≠ e) : CodesAt base ms w' :=
 fun m hm => own_grown_own (h m hm) hg ho hne
theorem CodesAt.snoc {base : Nat} {ms : List MethL} {w : World} (h : CodesAt base ms w) {m : MethL} (hm : w.ownsRow base 41 7 (codeW m) (m.code.length + 2) (instV (m.code ++ markI))) : CodesAt base (ms ++ [m]) w := fun x hx => by
 rcases List.mem_append.1 hx with hx | hx
 ·exact h x hx
 ·rw [List.mem_singleton.1 hx]; exact hm
def MethL.like (m : MethL) (A : Option Addr) (cap : Nat) : MethL := ⟨m.nm, m.ds, m.fl, m.lo, m.st, A, cap, m.code⟩
structure Alike (ms' src : List MethL) (k : Nat) : Prop where
 len : ms'.length = k
 same : ms'.map methSOf = (src.take k).map methSOf
 room : ∀ m, m ∈ ms' → m.code.length + 2 ≤ m.cap
theorem Alike.nil (src : List MethL) : Alike [] src 0 := ⟨rfl, rfl, by simp⟩
theorem Alike.snoc {ms' src : List MethL} {k : Nat} (h : Alike ms' src k) (hk : k < src.length) (A : Option Addr) (cap : Nat) (hc : src[k].code.length + 2 ≤ cap) : Alike (ms' ++ [src[k].like A cap]) src (k + 1) := by
 refine ⟨by rw [List.length_append, h.len]; rfl, ?_, fun x hx => ?_⟩
 ·rw [List.map_append, h.same, List.take_succ_eq_append_getElem hk, List.map_append]
  rfl
 ·rcases List.mem_append.1 hx with hx | hx
  ·exact h.room x hx
  ·rw [List.mem_singleton.1 hx]; exact hc
theorem Alike.fit {ms' src : List MethL} (h : Alike ms' src src.length) {base : Nat} {w w0 : World} (hc : CodesAt base ms' w) (hs : ∀ m, m ∈ src → m.fit w0) : ∀ m, m ∈ ms' → m.fit w := by
 intro m hm
 obtain ⟨i, hi, rfl⟩ := List.getElem_of_mem hm
 have hil : i < src.length := by have := h.len; omega
 have e : methSOf ms'[i] = methSOf src[i] := by
  have h1 : (ms'.map methSOf)[i]? = ((src.take src.length).map methSOf)[i]? := by rw [h.same]
  rw [List.take_length, List.getElem?_map, List.getElem?_map, List.getElem?_eq_getElem hi, List.getElem?_eq_getElem hil] at h1
  exact Option.some.inj h1
 obtain ⟨-, -, f3, f4, f5, f6, f7, f8⟩ := hs _ (List.getElem_mem hil)
 have hat := hc _ (List.getElem_mem hi)
 have hroom := h.room _ (List.getElem_mem hi)
 revert e f3 f4 f5 f6 f7 f8 hat hroom
 generalize src[i] = s
 generalize ms'[i] = m
 intro e f3 f4 f5 f6 f7 f8 hat hroom
 obtain ⟨mn, md, mf, ml, mt, MA, mc, code⟩ := m
 obtain ⟨sn, sd, sf, sl, st, SA, sc, scode⟩ := s
 unfold methSOf at e
 simp only [MethS.mk.injEq] at e
 obtain ⟨rfl, rfl, rfl, rfl, rfl, rfl⟩ := e
 exact ⟨(insts_own2 hat).front, by simp only at hroom ⊢; omega, f3, f4, f5, f6, f7, f8⟩
def roomCells (c was : ClassL) (vI vM vC : Value) : Array Value := #[.string (bs c.nm), .string (bs c.sup), .slice c.AI c.ifs.length c.cI, .int .i64 c.fl, .int .i64 c.ld, .slice c.AM c.ms.length c.cM, vI, vM, vC, .string (bs was.nm), .string (bs was.sup), .slice was.AI was.ifs.length was.cI, .int .i64 was.fl, .int .i64 was.ld, .slice was.AM was.ms.length was.cM]
structure RoS (w : World) (bL rb : Nat) (c was : ClassL) (vI : Value) (AM : Option Addr) (cM : Nat) (AC : Option Addr) (cC : Nat) (ms1 ms2 ms3 : List MethL) : Prop where
 blk : Blk w rb 57 (roomCells c was vI (.slice AM ms1.length cM) (.slice AC ms2.length cC))
 om : w.ownsRow bL 34 6 (.slice AM ms1.length cM) ms1.length (methsV ms1)
 oc : w.ownsRow bL 32 1 (.slice AC ms2.length cC) ms2.length (ms2.map codeW)
 ol : CodesAt bL ms3 w
section
variable {w W w' : World} {bL rb : Nat} {c was : ClassL} {vI : Value} {AM : Option Addr} {cM : Nat} {AC : Option Addr} {cC : Nat} {ms1 ms2 ms3 : List MethL}
theorem RoS.upd (h : RoS w bL rb c was vI AM cM AC cC ms1 ms2 ms3) (u : Upd w w' []) : RoS w' bL rb c was vI AM cM AC cC ms1 ms2 ms3 :=
 ⟨u.blk h.blk (by simp), u.own h.om (fun _ _ => by simp), u.own h.oc (fun _ _ => by simp), h.ol.upd u⟩
theorem Upd.of_heap {o : Obj} (hh : W.heap = (w.alloc o).heap) (h1 : W.os = w.os) (h2 : W.tape = w.tape) (h3 : W.output = w.output) : Upd w W [] :=
 ⟨h1, h2, h3, by rw [hh]; simp, fun b hb _ => by rw [hh]; exact Below.heap_alloc w o b hb⟩
theorem RoS.snoc (h : RoS w bL rb c was vI AM cM AC cC ms1 ms2 ms3) {m : MethL} (hm : w.ownsRow bL 41 7 (codeW m) (m.code.length + 2) (instV (m.code ++ markI))) : RoS w bL rb c was vI AM cM AC cC ms1 ms2 (ms3 ++ [m]) := ⟨h.blk, h.om, h.oc, h.ol.snoc hm⟩
theorem RoS.codes (h : RoS W bL rb c was vI AM cM AC cC ms1 ms2 ms3) (m : MethL) {AC' : Option Addr} {cC' : Nat} (hg : W.grownBy w' (Value.slice AC ms2.length cC).ownBlock) (ho : w'.ownsRow bL 32 1 (.slice AC' (ms2.length + 1) cC') (ms2.length + 1) (ms2.map codeW ++ [codeW m])) :
  RoS (w'.setCell ⟨rb, 8, none⟩ (.slice AC' (ms2.length + 1) cC')) bL rb c was vI AM cM AC' cC' ms1 (ms2 ++ [m]) ms3 ∧ ∀ g t cs, Blk W g t cs → 32 ≠ t → g ≠ rb → Blk (w'.setCell ⟨rb, 8, none⟩ (.slice AC' (ms2.length + 1) cC')) g t cs := by
 have hb := h.blk.grown_own hg h.oc (by decide)
 have hl : (ms2 ++ [m]).length = ms2.length + 1 := by simp
 refine ⟨⟨?_, ?_, ?_, ?_⟩, fun g t cs hB hne hgr => (hB.grown_own hg h.oc hne).far (p := ⟨rb, 8, none⟩) hgr _⟩
 ·rw [hl]
  exact hb.set_ 8 _
 ·have := own_grown_own h.om hg h.oc (by decide)
  exact ownsRow_setCell_other this (own_blk_ne this hb (by decide)) _
 ·rw [hl, List.map_append]
  exact ownsRow_setCell_other ho (own_blk_ne ho hb (by decide)) _
 ·exact (h.ol.grown hg h.oc (by decide)).set hb (by decide) 8 _
theorem RoS.meths (h : RoS W bL rb c was vI AM cM AC cC ms1 ms2 ms3) (m : List MethL) {AM' : Option Addr} {cM' : Nat} (hg : W.grownBy w' (Value.slice AM ms1.length cM).ownBlock) (ho : w'.ownsRow bL 34 6 (.slice AM' (ms1.length + m.length) cM') (ms1.length + m.length) (methsV ms1 ++ methsV m)) :
  RoS (w'.setCell ⟨rb, 7, none⟩ (.slice AM' (ms1.length + m.length) cM')) bL rb c was vI AM' cM' AC cC (ms1 ++ m) ms2 ms3 := by
 have hb := h.blk.grown_own hg h.om (by decide)
 have hl : (ms1 ++ m).length = ms1.length + m.length := by simp
 refine ⟨?_, ?_, ?_, ?_⟩
 ·rw [hl]
  exact hb.set_ 7 _
 ·rw [hl, methsV_append]
  exact ownsRow_setCell_other ho (own_blk_ne ho hb (by decide)) _
 ·have := own_grown_own h.oc hg h.om (by decide)
  exact ownsRow_setCell_other this (own_blk_ne this hb (by decide)) _
 ·exact (h.ol.grown hg h.om (by decide)).set hb (by decide) 7 _
end
section
variable {w W w' : World} {bL rb : Nat} {c was : ClassL} {vI : Value} {AM : Option Addr} {cM : Nat} {AC : Option Addr} {cC : Nat} {ms1 ms2 ms3 : List MethL}
theorem RoS.far (h : RoS w bL rb c was vI AM cM AC cC ms1 ms2 ms3) {g : Nat} {t : TypeId} {cs : Array Value} (hb : Blk w g t cs) (h1 : 32 ≠ t) (h2 : 41 ≠ t) (hr : rb ≠ g) (hm : (Value.slice AM ms1.length cM).ownBlock ≠ some g) (o : Nat) (v : Value) : RoS (w.setCell ⟨g, o, none⟩ v) bL rb c was vI AM cM AC cC ms1 ms2 ms3 :=
 ⟨h.blk.far (p := ⟨g, o, none⟩) hr v, ownsRow_setCell_other h.om hm v, ownsRow_setCell_other h.oc (own_blk_ne h.oc hb h1) v, h.ol.set hb h2 o v⟩
theorem RoS.drew (h : RoS w bL rb c was vI AM cM AC cC ms1 ms2 ms3) : RoS w.drew bL rb c was vI AM cM AC cC ms1 ms2 ms3 := ⟨h.blk, h.om, h.oc, h.ol⟩
theorem RoS.heap (h : RoS w bL rb c was vI AM cM AC cC ms1 ms2 ms3) (hh : W.heap = w.heap) : RoS W bL rb c was vI AM cM AC cC ms1 ms2 ms3 :=
 ⟨by unfold Blk; rw [hh]; exact h.blk, own_heap h.om hh, own_heap h.oc hh, fun m hm => own_heap (h.ol m hm) hh⟩
theorem RoS.meth_step (h : RoS w bL rb c was vI AM cM AC cC ms1 ms2 ms3) (m : List MethL) {o : Obj} {AM' : Option Addr} {cM' : Nat} (hbL : bL ≤ w.heap.size) {wL : World} (hL : bL = wL.heap.size) (u : Upd wL w [rb]) (hh : W.heap = (w.alloc o).heap) (h1 : W.os = w.os) (h2 : W.tape = w.tape) (h3 : W.output = w.output)
  (hg : W.grownBy w' (Value.slice AM ms1.length cM).ownBlock) (ho : w'.ownsRow bL 34 6 (.slice AM' (ms1.length + m.length) cM') (ms1.length + m.length) (methsV ms1 ++ methsV m)) :
  (w'.cell? ⟨rb, 7, none⟩ = some (.slice AM ms1.length cM) ∧ w'.frozen? ⟨rb, 7, none⟩ = false) ∧ RoS (w'.setCell ⟨rb, 7, none⟩ (.slice AM' (ms1.length + m.length) cM')) bL rb c was vI AM' cM' AC cC (ms1 ++ m) ms2 ms3 ∧ Upd wL (w'.setCell ⟨rb, 7, none⟩ (.slice AM' (ms1.length + m.length) cM')) [rb] := by
 have hW : RoS W bL rb c was vI AM cM AC cC ms1 ms2 ms3 := (h.upd ((Upd.refl w []).alloc o)).heap hh
 have hb := hW.blk.grown_own hg hW.om (by decide)
 have hs : W.heap.size = w.heap.size + 1 := by rw [hh]; simp
 refine ⟨⟨(hb.cell 7).trans rfl, hb.frozen 7⟩, hW.meths m hg ho, ?_⟩
 have hown := fun k hk => (h.om.lt k hk).1
 have hu : Upd wL w' [rb] := by
  refine ⟨(hg.os.trans h1).trans u.os, (hg.tape.trans h2).trans u.tape, (hg.output.trans h3).trans u.output, by have := hg.size; have := u.size; omega, fun b hb hn => ?_⟩
  refine (hg.block b (by have := u.size; omega) (fun e => ?_)).trans ((?_ : W.heap[b]? = w.heap[b]?).trans (u.block b hb hn))
  ·have := hown b e.symm
   omega
  ·rw [hh]
   exact Below.heap_alloc w o b (Nat.lt_of_lt_of_le hb u.size)
 exact hu.setCell (p := ⟨rb, 7, none⟩) (.inl (by simp)) _
end
structure RowsAt (w : World) (bI bL : Nat) (vI : Value) (nI : Nat) (xs : List Value) (vM : Value) (nM : Nat) (ml : List MethL) (vC : Value) (ls : List MethL) : Prop where
 os : w.ownsRow bI 9 1 vI nI xs
 om : w.ownsRow bL 34 6 vM nM (methsV ml)
 oc : w.ownsRow bL 32 1 vC ls.length (ls.map codeW)
 ol : CodesAt bL ls w
theorem RowsAt.set {w : World} {bI bL : Nat} {vI : Value} {nI : Nat} {xs : List Value} {vM : Value} {nM : Nat} {ml : List MethL} {vC : Value} {ls : List MethL} (h : RowsAt w bI bL vI nI xs vM nM ml vC ls) {g : Nat} {cs : Array Value} (hb : Blk w g 57 cs) (o : Nat) (v : Value) :
  RowsAt (w.setCell ⟨g, o, none⟩ v).drew bI bL vI nI xs vM nM ml vC ls :=
 ⟨own_heap (ownsRow_setCell_other h.os (own_blk_ne h.os hb (by decide)) v) rfl, own_heap (ownsRow_setCell_other h.om (own_blk_ne h.om hb (by decide)) v) rfl, own_heap (ownsRow_setCell_other h.oc (own_blk_ne h.oc hb (by decide)) v) rfl, fun m hm => own_heap (h.ol.set hb (by decide) o v m hm) rfl⟩
structure RoomAt (w : World) (rb : Nat) (c d was : ClassL) (AC : Option Addr) (capC : Nat) : Prop where
 blk : Blk w rb 57 (roomCells d was (.slice d.AI (d.ifs.length + 2) d.cI) (.slice d.AM (d.ms.length + 2) d.cM) (.slice AC d.ms.length capC))
 dfit : d.fit w
 drd : rdOf d = rdOf c
 wfit : was.fit w
 wrd : rdOf was = rdOf c
 oi : w.ownsRow 0 9 1 (.slice d.AI (d.ifs.length + 2) d.cI) (d.ifs.length + 2) (d.ifs.map strV ++ [strV m71, strV m72])
 om : w.ownsRow 0 34 6 (.slice d.AM (d.ms.length + 2) d.cM) (d.ms.length + 2) (methsV (d.ms ++ [markM m71, markM m72]))
 oc : w.ownsRow 0 32 1 (.slice AC d.ms.length capC) d.ms.length (d.ms.map codeW)
 ol : CodesAt 0 d.ms w
theorem RoomAt.upd {w w' : World} {rb : Nat} {c d was : ClassL} {AC : Option Addr} {capC : Nat} (h : RoomAt w rb c d was AC capC) (u : Upd w w' []) : RoomAt w' rb c d was AC capC :=
 ⟨u.blk h.blk (by simp), h.dfit.upd u, h.drd, h.wfit.upd u, h.wrd, u.own h.oi (fun _ _ => by simp), u.own h.om (fun _ _ => by simp), u.own h.oc (fun _ _ => by simp), h.ol.upd u⟩
theorem room_of {w : World} {bI bL rb : Nat} {c d was : ClassL} {AC : Option Addr} {cC : Nat} {wc : World} (hc : c.fit wc) (hr : d.nm = c.nm ∧ d.sup = c.sup ∧ d.ifs = c.ifs ∧ d.fl = c.fl ∧ d.ld = c.ld) (ha : Alike d.ms c.ms c.ms.length)
  (hb : Blk w rb 57 (roomCells d was (.slice d.AI (d.ifs.length + 2) d.cI) (.slice d.AM (d.ms.length + 2) d.cM) (.slice AC d.ms.length cC)))
  (hi : w.ownsRow bI 9 1 (.slice d.AI (d.ifs.length + 2) d.cI) (d.ifs.length + 2) (d.ifs.map strV ++ [strV m71, strV m72])) (hm : w.ownsRow bL 34 6 (.slice d.AM (d.ms.length + 2) d.cM) (d.ms.length + 2) (methsV (d.ms ++ [markM m71, markM m72])))
  (ho : w.ownsRow bL 32 1 (.slice AC d.ms.length cC) d.ms.length (d.ms.map codeW)) (hl : CodesAt bL d.ms w) (hw : was.fit w) (hwr : rdOf was = rdOf c) : RoomAt w rb c d was AC cC := by
 obtain ⟨h1, h2, h3, h4, h5⟩ := hr
 have hlen := ha.len
 have hms : MethsAt w d.AM d.ms := by
  have := hm
  rw [methsV_append] at this
  exact meths_own this (by omega)
 refine ⟨hb, ⟨by rw [h1]; exact hc.nm, by rw [h2]; exact hc.sup, strs_own2 hi (by omega), ?_, by rw [h3]; exact hc.lenI, by rw [h3]; exact hc.strs, hms, ?_, ?_, ha.fit hl hc.meths, by rw [h4]; exact hc.flN, by rw [h5]; exact hc.ldN⟩, ?_, hw, hwr, own_weak hi, own_weak hm, own_weak ho, fun m hm => own_weak (hl m hm)⟩
 ·have := own_cap hi
  omega
 ·have := own_cap hm
  omega
 ·rw [hlen]; exact hc.lenM
 ·unfold rdOf
  have := ha.same
  rw [List.take_length] at this
  rw [h1, h2, h3, h4, h5, this]
end Go.Proofs.YtjjdlgjofjfgmaaGreatDoor
