/-
  Layer 6 (hier): how a class finds those above it; a world as a list of entries; plain laws.
-/
import Derived.Test.YtfpdeiefkimaaaaGreatDoorR1
import Derived.Test.YtfpdeiefkimaaaaGreatDoorKJ
import Derived.Test.YtfpdeiefkimaaaaGreatDoorK9
import Derived.Test.YtfpdeiefkimaaaaGreatDoorK5
import Derived.Test.YtfpdeiefkimaaaaGreatDoorKC
import Derived.Test.YtfpdeiefkimaaaaGreatDoorKQ
import Derived.Deep.MidRow
import Derived.Test.YtfpdeiefkimaaaaGreatDoorKL
set_option linter.unusedSimpArgs false
set_option linter.unusedVariables false
namespace Go.Proofs.YtfpdeiefkimaaaaGreatDoor
open Go.RowKit

/-! ### How a class is received -/
/-- Where the last c stands. -/
def lastAt (c : UInt8) : List UInt8 → Option Nat
  | [] => none
  | x :: t => match lastAt c t with
    | some k => some (k + 1)
    | none => if x = c then some 0 else none
/-- The package of a name. -/
def pkgL (nm : List UInt8) : List UInt8 := match lastAt 47 nm with
  | some k => nm.take k
  | none => []
def isIf (r : RdS) : Bool := anyF r.fl 512
def isPub (r : RdS) : Bool := anyF r.fl 1
def togL (a b : RdS) : Bool := decide (a.ld = b.ld) && decide (pkgL a.nm = pkgL b.nm)
/-- The class above that a name finds: its number, or the error. -/
def aboveL (ws : List RdS) (c : RdS) (nm : List UInt8) (want : Bool) : Nat × Int := match ws.findIdx? (fun r => decide (r.nm = nm)) with
  | none => (0, 20)
  | some k => match ws[k]? with
    | none => (0, 20)
    | some p => if isIf p != want || (!want && isIf c && decide (k ≠ 0)) then (0, 23) else if !isPub p && !togL c p then (0, 22) else (k, 0)
/-- The first error among a class's interfaces. -/
def ifsE (ws : List RdS) (c : RdS) : List (List UInt8) → Int
  | [] => 0
  | x :: t => if (aboveL ws c x true).2 = 0 then ifsE ws c t else (aboveL ws c x true).2
/-- The three classes that each world begins with. -/
def objR : RdS := ⟨[79, 98, 106, 101, 99, 116], [], [], 33, 0, [⟨[60, 105, 110, 105, 116, 62], [40, 41, 86], 1, 1, 0, [⟨38, 0, [], noRefL⟩]⟩, ⟨[105, 100], [40, 41, 73], 1, 1, 1, [⟨1, 7, [], noRefL⟩, ⟨36, 0, [], noRefL⟩]⟩, ⟨[107, 105, 110], [40, 41, 76, 79, 98, 106, 101, 99, 116, 59], 4, 1, 1, [⟨4, 0, [], noRefL⟩, ⟨37, 0, [], noRefL⟩]⟩], 8⟩
def cloR : RdS := ⟨[67, 108, 111, 110, 101, 97, 98, 108, 101], [79, 98, 106, 101, 99, 116], [], 1537, 0, [], 8⟩
def serR : RdS := ⟨[83, 101, 114, 105, 97, 108, 105, 122, 97, 98, 108, 101], [79, 98, 106, 101, 99, 116], [], 1537, 0, [], 8⟩
def baseW : List RdS := [objR, cloR, serR]

/-! ### A world as a list of entries -/
/-- A class, its superclass or -1, how many classes stand above it, its interfaces. -/
structure Ent where
  r : RdS
  ab : Int
  dp : Int
  cl : List Int
/-- A number more in a closure. -/
def addI (l : List Int) (x : Int) : List Int := if x ∈ l then l else l ++ [x]
def clAt (es : List Ent) (k : Nat) : List Int := (es[k]?.map Ent.cl).getD []
def dpAt (es : List Ent) (k : Nat) : Int := (es[k]?.map Ent.dp).getD 0
/-- The closure that an interface brings. -/
def addIf (es : List Ent) (c : List Int) (i : Nat) : List Int := addI ((clAt es i).foldl addI c) i
/-- The entry of a class whose names are found. -/
def putOf (es : List Ent) (r : RdS) (ab : Int) (ids : List Nat) : Ent := ⟨r, ab, if 0 ≤ ab then dpAt es ab.toNat + 1 else 0, ids.foldl (addIf es) (if 0 ≤ ab then clAt es ab.toNat else [])⟩
/-- What a world's numbers are like. -/
structure Good (es : List Ent) : Prop where
  len : es.length ≤ 300
  nd : ∀ e, e ∈ es → e.cl.Nodup
  cl : ∀ e, e ∈ es → ∀ x, x ∈ e.cl → 0 ≤ x ∧ x < es.length
  ab : ∀ e, e ∈ es → -1 ≤ e.ab ∧ e.ab < es.length
  dp : ∀ e, e ∈ es → 0 ≤ e.dp ∧ e.dp ≤ es.length
theorem add_nd {l : List Int} (h : l.Nodup) (x : Int) : (addI l x).Nodup := by
  unfold addI
  split
  · exact h
  · rename_i hx
    rw [List.nodup_append]
    exact ⟨h, by simp, fun a ha b hb => by rw [List.mem_singleton.1 hb]; rintro rfl; exact hx ha⟩
theorem add_mem {l : List Int} {x y : Int} (h : y ∈ addI l x) : y ∈ l ∨ y = x := by
  unfold addI at h
  split at h
  · exact .inl h
  · rcases List.mem_append.1 h with h | h
    · exact .inl h
    · exact .inr (List.mem_singleton.1 h)
/-- Numbers below n, none twice. -/
def Nums (n : Nat) (l : List Int) : Prop := l.Nodup ∧ ∀ x, x ∈ l → 0 ≤ x ∧ x < n
theorem Nums.add {n : Nat} {l : List Int} (h : Nums n l) {x : Int} (h0 : 0 ≤ x) (h1 : x < n) : Nums n (addI l x) :=
  ⟨add_nd h.1 x, fun y hy => by
    rcases add_mem hy with hy | rfl
    · exact h.2 y hy
    · exact ⟨h0, h1⟩⟩
theorem Nums.adds {n : Nat} : ∀ (m l : List Int), Nums n l → (∀ x, x ∈ m → 0 ≤ x ∧ x < n) → Nums n (m.foldl addI l)
  | [], _, h, _ => h
  | x :: t, l, h, hm => Nums.adds t (addI l x) (h.add (hm x (by simp)).1 (hm x (by simp)).2) (fun y hy => hm y (List.mem_cons_of_mem _ hy))
theorem nodup_len : ∀ (n : Nat) (l : List Int), l.Nodup → (∀ x, x ∈ l → 0 ≤ x ∧ x < n) → l.length ≤ n
  | 0, [], _, _ => Nat.le_refl _
  | 0, x :: t, _, h => by have := h x (by simp); omega
  | n + 1, l, hn, h => by
    have h1 : (l.erase (n : Int)).length ≤ n := nodup_len n _ (hn.erase _) (fun x hx => by
      have h2 := h x (List.mem_of_mem_erase hx)
      have h3 : x ≠ n := fun e => by subst e; exact (List.Nodup.not_mem_erase hn) hx
      omega)
    have := List.length_erase_le (a := (n : Int)) (l := l)
    have h4 : l.length ≤ (l.erase (n : Int)).length + 1 := by
      rw [List.length_erase]
      split <;> omega
    omega
theorem Nums.len {n : Nat} {l : List Int} (h : Nums n l) : l.length ≤ n := nodup_len n l h.1 h.2
theorem Good.clAt {es : List Ent} (h : Good es) (k : Nat) : Nums es.length (clAt es k) := by
  unfold Proofs.YtfpdeiefkimaaaaGreatDoor.clAt
  cases hk : es[k]? with
  | none => exact ⟨by simp, by simp⟩
  | some e =>
    have hm := List.mem_of_getElem? hk
    exact ⟨h.nd e hm, h.cl e hm⟩
theorem Nums.addIf {es : List Ent} (hg : Good es) {c : List Int} (h : Nums es.length c) {i : Nat} (hi : i < es.length) : Nums es.length (addIf es c i) :=
  (Nums.adds _ _ h (hg.clAt i).2).add (by omega) (by omega)
theorem Nums.ids {es : List Ent} (hg : Good es) : ∀ (ids : List Nat) (c : List Int), Nums es.length c → (∀ i, i ∈ ids → i < es.length) → Nums es.length (ids.foldl (Proofs.YtfpdeiefkimaaaaGreatDoor.addIf es) c)
  | [], _, h, _ => h
  | i :: t, c, h, hi => Nums.ids hg t _ (h.addIf hg (hi i (by simp))) (fun j hj => hi j (List.mem_cons_of_mem _ hj))
theorem Nums.mono {n m : Nat} {l : List Int} (h : Nums n l) (hm : n ≤ m) : Nums m l := ⟨h.1, fun x hx => by have := h.2 x hx; omega⟩
theorem Good.nil : Good [] := ⟨by simp, by simp, by simp, by simp, by simp⟩
theorem Good.put {es : List Ent} (h : Good es) (r : RdS) (ab : Int) (ids : List Nat) (hl : es.length < 300) (h1 : -1 ≤ ab) (h2 : ab < es.length) (hi : ∀ i, i ∈ ids → i < es.length) : Good (es ++ [putOf es r ab ids]) := by
  have hN : Nums es.length (putOf es r ab ids).cl := Nums.ids h ids _ (by
    split
    · exact h.clAt _
    · exact ⟨by simp, by simp⟩) hi
  have hd : 0 ≤ (putOf es r ab ids).dp ∧ (putOf es r ab ids).dp ≤ es.length + 1 := by
    show 0 ≤ (if 0 ≤ ab then dpAt es ab.toNat + 1 else 0) ∧ (if 0 ≤ ab then dpAt es ab.toNat + 1 else 0) ≤ (es.length : Int) + 1
    split
    · unfold dpAt
      cases hk : es[ab.toNat]? with
      | none => simp; omega
      | some e =>
        have := h.dp e (List.mem_of_getElem? hk)
        simp
        omega
    · omega
  refine ⟨by simp; omega, fun e he => ?_, fun e he x hx => ?_, fun e he => ?_, fun e he => ?_⟩
  · rcases List.mem_append.1 he with he | he
    · exact h.nd e he
    · rw [List.mem_singleton.1 he]; exact hN.1
  · rw [List.length_append, List.length_singleton]
    rcases List.mem_append.1 he with he | he
    · have := h.cl e he x hx
      omega
    · rw [List.mem_singleton.1 he] at hx
      have := hN.2 x hx
      omega
  · rw [List.length_append, List.length_singleton]
    rcases List.mem_append.1 he with he | he
    · have := h.ab e he
      omega
    · rw [List.mem_singleton.1 he]
      show -1 ≤ ab ∧ ab < _
      omega
  · rw [List.length_append, List.length_singleton]
    rcases List.mem_append.1 he with he | he
    · have := h.dp e he
      omega
    · rw [List.mem_singleton.1 he]
      omega
end Go.Proofs.YtfpdeiefkimaaaaGreatDoor
/-
  A class that comes in as an argument, with what a row says of its reach.
-/
set_option linter.unusedSimpArgs false
set_option linter.unusedVariables false
namespace Go.Proofs.YtfpdeiefkimaaaaGreatDoor
open Go.ChangeShapes Go.WideShapes Go.ChangeAt Go.RowKit Go.Deep

/-- Lists within reach. -/
def ClassL.small (c : ClassL) : Prop := c.ifs.length ≤ 8796093021952 ∧ c.ms.length ≤ 1759218604390 ∧ ∀ m, m ∈ c.ms → m.code.length ≤ 1599289640354
section
variable {H : Type} {enc : TypeId × Value → H} {w : World} {base : Nat} {held : Bool} {fuel : Nat} {cs : List Value} {x : DataW H × List MemPlace}

end

end Go.Proofs.YtfpdeiefkimaaaaGreatDoor
/-
  What the document's Copy of a class keeps in memory; plain laws.
-/
set_option linter.unusedSimpArgs false
set_option linter.unusedVariables false
namespace Go.Proofs.YtfpdeiefkimaaaaGreatDoor
open Go.RowKit

theorem Upd.setCells {a : World} {F : List Nat} {b : Nat} (hb : a.heap.size ≤ b) : ∀ (vs : List Value) (o : Nat) {w : World}, Upd a w F → Upd a (w.setCells b o vs) F
  | [], _, _, h => h
  | v :: r, o, w, h => by
    rw [World.setCells]
    exact Upd.setCells hb r (o + 1) (h.setCell (.inr hb) v)
theorem Upd.setCells' {a : World} {F : List Nat} {b : Nat} (hb : b ∈ F ∨ a.heap.size ≤ b) : ∀ (vs : List Value) (o : Nat) {w : World}, Upd a w F → Upd a (w.setCells b o vs) F
  | [], _, _, h => h
  | v :: r, o, w, h => by
    rw [World.setCells]
    exact Upd.setCells' hb r (o + 1) (h.setCell hb v)
theorem heap_setCells (b : Nat) : ∀ (vs : List Value) (o : Nat) (w : World) (k : Nat), k ≠ b → (w.setCells b o vs).heap[k]? = w.heap[k]?
  | [], _, _, _, _ => rfl
  | v :: r, o, w, k, h => by
    rw [World.setCells, heap_setCells b r (o + 1) _ k h, heap_setCell_other w ⟨b, o, none⟩ k v h]
theorem size_setCells (b : Nat) : ∀ (vs : List Value) (o : Nat) (w : World), (w.setCells b o vs).heap.size = w.heap.size
  | [], _, _ => rfl
  | v :: r, o, w => by
    rw [World.setCells, size_setCells b r (o + 1)]
    simp
theorem Upd.there {w w' : World} (u : Upd w w' []) {b o n : Nat} (hb : b < w.heap.size) (h : w.there b o n) : w'.there b o n := fun j hj => by
  obtain ⟨h1, h2⟩ := h j hj
  have hk := u.block b hb (by simp)
  exact ⟨by rw [World.cell?_of_block (w := w) (w' := w') (a := ⟨b, o + j, none⟩) hk]; exact h1, by rw [World.frozen?_of_block (w := w) (w' := w') (a := ⟨b, o + j, none⟩) hk]; exact h2⟩
/-- The first k methods are copied into block g. -/
structure CopyI (n : Nat) (src : List MethL) (g k : Nat) (ms : List MethL) (w : World) : Prop where
  len : ms.length = k
  lt : g < w.heap.size
  at_ : ∀ i (h : i < ms.length), ∀ j, j < 6 → w.cell? ⟨g, i * 6 + j, none⟩ = ms[i].cells[j]?
  th : w.there g 0 (n * 6)
  fit : ∀ m, m ∈ ms → m.fit w
  code : ∀ m, m ∈ ms → m.code ≠ [] → ∃ b off, m.A = some ⟨b, off, none⟩ ∧ g < b
  same : ms.map methSOf = (src.take k).map methSOf
theorem CopyI.upd {n : Nat} {src : List MethL} {g k : Nat} {ms : List MethL} {w w' : World} (h : CopyI n src g k ms w) (u : Upd w w' []) : CopyI n src g k ms w' :=
  ⟨h.len, Nat.lt_of_lt_of_le h.lt u.size, fun i hi j hj => by rw [u.cells.1 g _ h.lt]; exact h.at_ i hi j hj, u.there h.lt h.th, fun m hm => (h.fit m hm).upd u, h.code, h.same⟩
theorem InstsAt.other {w w' : World} {A : Option Addr} {l : List InstL} (h : InstsAt w A l) {g : Nat} (hs : w.heap.size ≤ w'.heap.size) (hb : ∀ k, k ≠ g → w'.heap[k]? = w.heap[k]?) (hA : l ≠ [] → ∃ b off, A = some ⟨b, off, none⟩ ∧ b ≠ g) : InstsAt w' A l := by
  intro hl
  obtain ⟨bk, off, e, hlt, hc⟩ := h hl
  obtain ⟨b, off', e', hne⟩ := hA hl
  rw [e] at e'
  cases e'
  refine ⟨bk, off, e, Nat.lt_of_lt_of_le hlt hs, fun i hi j hj => ?_⟩
  rw [World.cell?_of_block (w := w) (w' := w') (a := ⟨bk, off + i * 7 + j, none⟩) (hb bk hne)]
  exact hc i hi j hj
theorem MethL.fit.other {w w' : World} {m : MethL} (h : m.fit w) {g : Nat} (hs : w.heap.size ≤ w'.heap.size) (hb : ∀ k, k ≠ g → w'.heap[k]? = w.heap[k]?) (hA : m.code ≠ [] → ∃ b off, m.A = some ⟨b, off, none⟩ ∧ b ≠ g) : m.fit w' :=
  ⟨h.at_.other hs hb hA, h.cap, h.fits, h.nums, h.len, h.nm, h.ds, h.num⟩
theorem above {p : Prop} {A : Option Addr} {g g' : Nat} (hg : g' ≤ g) (h : p → ∃ b off, A = some ⟨b, off, none⟩ ∧ g < b) : p → ∃ b off, A = some ⟨b, off, none⟩ ∧ b ≠ g' := fun hp => by
  obtain ⟨b, off, e, hb⟩ := h hp
  exact ⟨b, off, e, by omega⟩
/-- The six cells of a method are written: the rest is as it was. -/
theorem CopyI.six {n : Nat} {src : List MethL} {g k : Nat} {ms : List MethL} {w w6 : World} (h : CopyI n src g k ms w) (hk : k < n) (vs : List Value) (h6 : w6.heap = (w.setCells g (k * 6) vs).heap) :
    (∀ q, q ≠ g → w6.heap[q]? = w.heap[q]?) ∧ w6.heap.size = w.heap.size ∧ w6.there g (k * 6) 6 ∧ g < w6.heap.size := by
  refine ⟨fun q hq => by rw [h6]; exact heap_setCells g vs (k * 6) w q hq, by rw [h6, size_setCells], fun j hj => ?_, by rw [h6, size_setCells]; exact h.lt⟩
  have := (World.there_setCells h.th g (k * 6) vs) (k * 6 + j) (by omega)
  rw [Nat.zero_add] at this
  have e1 : w6.cell? ⟨g, k * 6 + j, none⟩ = (w.setCells g (k * 6) vs).cell? ⟨g, k * 6 + j, none⟩ := by unfold World.cell?; rw [h6]
  have e2 : w6.frozen? ⟨g, k * 6 + j, none⟩ = (w.setCells g (k * 6) vs).frozen? ⟨g, k * 6 + j, none⟩ := by unfold World.frozen?; rw [h6]
  exact ⟨by rw [e1]; exact this.1, by rw [e2]; exact this.2⟩
/-- One method more: its cells are written, then its new code. -/
theorem CopyI.step {n : Nat} {src : List MethL} {g k : Nat} {ms : List MethL} {w w1 w2 : World} (h : CopyI n src g k ms w) (hk : k < n) (hks : k < src.length) {m : MethL} (hm : src[k] = m) (h1 : w1.heap = (w.setCells g (k * 6) m.cells.toList).heap) (u : Upd w1 w2 []) (A' : Option Addr) (cap' : Nat)
    (hfit : (⟨m.nm, m.ds, m.fl, m.lo, m.st, A', cap', m.code⟩ : MethL).fit w2) (hne : m.code ≠ [] → ∃ b off, A' = some ⟨b, off, none⟩ ∧ g < b) :
    CopyI n src g (k + 1) (ms ++ [⟨m.nm, m.ds, m.fl, m.lo, m.st, A', cap', m.code⟩]) (w2.setCell ⟨g, k * 6 + 5, none⟩ (.slice A' m.code.length cap')) := by
  have hlt := h.lt
  have hs1 : w1.heap.size = w.heap.size := by rw [h1, size_setCells]
  have hlt1 : g < w1.heap.size := by omega
  have hlt2 : g < w2.heap.size := Nat.lt_of_lt_of_le hlt1 u.size
  have hcl : m.cells.toList.length = 6 := rfl
  have hth : w.there g (k * 6) 6 := fun j hj => by
    have := h.th (k * 6 + j) (by omega)
    rwa [Nat.zero_add] at this
  have cell1 : ∀ x : Addr, w1.cell? x = (w.setCells g (k * 6) m.cells.toList).cell? x := fun x => by
    unfold World.cell?
    rw [h1]
  have froz1 : ∀ x : Addr, w1.frozen? x = (w.setCells g (k * 6) m.cells.toList).frozen? x := fun x => by
    unfold World.frozen?
    rw [h1]
  have hin : ∀ j, j < 6 → w2.cell? ⟨g, k * 6 + j, none⟩ = m.cells[j]? := fun j hj => by
    rw [u.cells.1 g _ hlt1, cell1, World.cell?_setCells_in g m.cells.toList (k * 6) w (fun i hi => (hth i (by omega)).1) j (by omega), ← List.getElem?_eq_getElem, Array.getElem?_toList]
  have hout : ∀ o, o < k * 6 → w2.cell? ⟨g, o, none⟩ = w.cell? ⟨g, o, none⟩ := fun o ho => by
    rw [u.cells.1 g _ hlt1, cell1, World.cell?_setCells_out g m.cells.toList (k * 6) w ⟨g, o, none⟩ (fun _ _ => .inl ho)]
  have h5 : w2.cell? ⟨g, k * 6 + 5, none⟩ = some (.slice m.A m.code.length m.cap) := hin 5 (by omega)
  have hblk : ∀ q, q ≠ g → (w2.setCell ⟨g, k * 6 + 5, none⟩ (.slice A' m.code.length cap')).heap[q]? = w2.heap[q]? := fun q hq => heap_setCell_other w2 ⟨g, k * 6 + 5, none⟩ q _ hq
  refine ⟨by rw [List.length_append, h.len]; rfl, by simpa using hlt2, fun i hi j hj => ?_, ?_, fun x hx => ?_, fun x hx => ?_, ?_⟩
  · have hml := h.len
    by_cases hik : i < ms.length
    · rw [List.getElem_append_left hik]
      rw [World.cell?_setCell_other _ _ _ _ (fun e => by injection e with _ e2 _; omega), hout (i * 6 + j) (by omega)]
      exact h.at_ i hik j hj
    · have hik2 : i = k := by simp at hi; omega
      subst hik2
      rw [List.getElem_append_right (by omega)]
      simp only [hml, Nat.sub_self, List.getElem_cons_zero]
      by_cases hj5 : j = 5
      · subst hj5
        rw [World.cell?_setCell_same _ _ _ h5]
        rfl
      · rw [World.cell?_setCell_other _ _ _ _ (fun e => by injection e with _ e2 _; omega), hin j hj]
        match j, hj, hj5 with
        | 0, _, _ => rfl
        | 1, _, _ => rfl
        | 2, _, _ => rfl
        | 3, _, _ => rfl
        | 4, _, _ => rfl
        | 5, _, h => exact absurd rfl h
        | n + 6, h, _ => exact absurd h (by omega)
  · intro j hj
    obtain ⟨t1, t2⟩ := (World.there_setCells h.th g (k * 6) m.cells.toList) j hj
    have e1 : w2.cell? ⟨g, 0 + j, none⟩ = (w.setCells g (k * 6) m.cells.toList).cell? ⟨g, 0 + j, none⟩ := by rw [u.cells.1 g _ hlt1, cell1]
    have e2 : w2.frozen? ⟨g, 0 + j, none⟩ = (w.setCells g (k * 6) m.cells.toList).frozen? ⟨g, 0 + j, none⟩ := by
      rw [World.frozen?_of_block (w := w1) (w' := w2) (a := ⟨g, 0 + j, none⟩) (u.block g hlt1 (by simp)), froz1]
    have := World.isSome_setCells g [.slice A' m.code.length cap'] (k * 6 + 5) w2 ⟨g, 0 + j, none⟩ (by rw [e1]; exact t1)
    exact ⟨this, by rw [World.frozen?_setCell, e2]; exact t2⟩
  · rcases List.mem_append.1 hx with hx | hx
    · exact (((h.fit x hx).other (w' := w1) (g := g) (by omega) (fun q hq => by rw [h1, heap_setCells g _ _ w q hq]) (above (Nat.le_refl _) (h.code x hx))).upd u).other (g := g) (by simp) hblk (above (Nat.le_refl _) (h.code x hx))
    · simp only [List.mem_singleton] at hx
      subst hx
      exact hfit.other (g := g) (by simp) hblk (above (Nat.le_refl _) hne)
  · rcases List.mem_append.1 hx with hx | hx
    · exact h.code x hx
    · simp only [List.mem_singleton] at hx
      subst hx
      exact hne
  · rw [List.map_append, h.same, List.take_succ_eq_append_getElem hks, List.map_append, hm]
    rfl
theorem StrsAt.src {w : World} {A : Option Addr} {l : List (List UInt8)} (h : StrsAt w A l) : l.map strV ≠ [] → ∃ ad, A = some ad ∧ ∀ j u, (l.map strV)[j]? = some u → w.cell? (ad.add j) = some u := by
  intro hne
  obtain ⟨bk, off, e, -, hc⟩ := h (fun e => hne (by rw [e]; rfl))
  refine ⟨_, e, fun j u hj => ?_⟩
  rw [Addr.add_mid]
  have hjl : j < l.length := by have := (List.getElem?_eq_some_iff.1 hj).1; simpa using this
  rw [List.getElem?_map, List.getElem?_eq_getElem hjl] at hj
  rw [hc j hjl]
  exact hj
theorem strs_one (l : List (List UInt8)) : ∀ u ∈ l.map strV, u.oneCell' = true := by
  intro u hu
  obtain ⟨x, -, rfl⟩ := List.mem_map.1 hu
  rfl
theorem instV_length : ∀ l : List InstL, (instV l).length = l.length * 7
  | [] => rfl
  | i :: t => by
    show (i.cells.toList ++ instV t).length = _
    rw [List.length_append, instV_length t, List.length_cons]
    show 7 + _ = _
    omega
theorem instV_one : ∀ (l : List InstL), ∀ u ∈ instV l, u.oneCell' = true := by
  intro l u hu
  obtain ⟨i, -, hu⟩ := List.mem_flatMap.1 hu
  simp only [InstL.cells, List.mem_cons, List.not_mem_nil, or_false] at hu
  rcases hu with rfl | rfl | rfl | rfl | rfl | rfl | rfl <;> rfl
theorem InstsAt.src {w : World} {A : Option Addr} {l : List InstL} (h : InstsAt w A l) : instV l ≠ [] → ∃ ad, A = some ad ∧ ∀ j u, (instV l)[j]? = some u → w.cell? (ad.add j) = some u := by
  intro hne
  obtain ⟨bk, off, e, -, hc⟩ := h (fun e => hne (by rw [e]; rfl))
  refine ⟨_, e, fun j u hj => ?_⟩
  rw [Addr.add_mid]
  have hjl : j < l.length * 7 := by have := (List.getElem?_eq_some_iff.1 hj).1; rwa [instV_length] at this
  have hi : j / 7 < l.length := by omega
  have hr : j % 7 < 7 := by omega
  have e2 := instV_get l (j / 7) hi (j % 7) hr
  rw [show j / 7 * 7 + j % 7 = j by omega] at e2
  rw [e2] at hj
  have := hc (j / 7) hi (j % 7) hr
  rw [show off + j / 7 * 7 + j % 7 = off + j by omega] at this
  rw [this]
  exact hj
theorem own_weak {w : World} {base : Nat} {e : TypeId} {size n : Nat} {v : Value} {xs : List Value} (h : w.ownsRow base e size v n xs) : w.ownsRow 0 e size v n xs := by
  obtain ⟨h1, h2⟩ := h
  rcases h2 with h2 | ⟨g, cap, cur, rfl, hb, rest⟩
  · exact ⟨h1, .inl h2⟩
  · exact ⟨h1, .inr ⟨g, cap, cur, rfl, Nat.zero_le _, rest⟩⟩
theorem own_base {w : World} {base : Nat} {e : TypeId} {size n : Nat} {v : Value} {xs : List Value} (h : w.ownsRow base e size v n xs) : ∀ k, v.ownBlock = some k → base ≤ k := by
  rcases h.2 with ⟨rfl, _⟩ | ⟨g, cap, cur, rfl, hb, _⟩
  · intro k hk; simp [Value.ownBlock] at hk
  · intro k hk; simp [Value.ownBlock] at hk; omega
theorem own_lt_some {w : World} {base : Nat} {e : TypeId} {size n cap g : Nat} {xs : List Value} (h : w.ownsRow base e size (.slice (some ⟨g, 0, none⟩) n cap) n xs) : g < w.heap.size := by
  rcases h.2 with ⟨h2, _⟩ | ⟨g', cap', cur, hv, hb, hg, _⟩
  · cases h2
  · cases hv
    exact (Array.getElem?_eq_some_iff.1 hg).1
theorem StrsAt.other {w w' : World} {A : Option Addr} {l : List (List UInt8)} (h : StrsAt w A l) {g : Nat} (hs : w.heap.size ≤ w'.heap.size) (hb : ∀ k, k ≠ g → w'.heap[k]? = w.heap[k]?) (hA : l ≠ [] → ∃ b off, A = some ⟨b, off, none⟩ ∧ b ≠ g) : StrsAt w' A l := by
  intro hl
  obtain ⟨bk, off, e, hlt, hc⟩ := h hl
  obtain ⟨b, off', e', hne⟩ := hA hl
  rw [e] at e'
  cases e'
  refine ⟨bk, off, e, Nat.lt_of_lt_of_le hlt hs, fun i hi => ?_⟩
  rw [World.cell?_of_block (w := w) (w' := w') (a := ⟨bk, off + i, none⟩) (hb bk hne)]
  exact hc i hi
theorem own_cap {w : World} {base : Nat} {e : TypeId} {size n cap : Nat} {A : Option Addr} {xs : List Value} (h : w.ownsRow base e size (.slice A n cap) n xs) : n ≤ cap := by
  obtain ⟨A', cap', hv, hc, -⟩ := own_slice h
  cases hv
  exact hc
theorem own_heap {w W : World} {base : Nat} {e : TypeId} {size n : Nat} {v : Value} {xs : List Value} (h : w.ownsRow base e size v n xs) (hh : W.heap = w.heap) : W.ownsRow base e size v n xs := by
  refine ⟨h.1, ?_⟩
  rcases h.2 with h2 | ⟨g, cap, cur, hv, hb, hg, rest⟩
  · exact .inl h2
  · exact .inr ⟨g, cap, cur, hv, hb, by rw [hh]; exact hg, rest⟩
theorem six_blk {w : World} {g : Nat} {t : TypeId} {cs : Array Value} (a b c d e f : Value) (h : Blk w g t cs) : Blk (w.setCells g 0 [a, b, c, d, e, f]) g t ((((((cs.setIfInBounds 0 a).setIfInBounds 1 b).setIfInBounds 2 c).setIfInBounds 3 d).setIfInBounds 4 e).setIfInBounds 5 f) :=
  (((((h.set_ 0 a).set_ 1 b).set_ 2 c).set_ 3 d).set_ 4 e).set_ 5 f
theorem six_set0 (w : World) (g : Nat) (a b c d e f : Value) : ((((((w.setCell ⟨g, 0, none⟩ a).setCell ⟨g, 1, none⟩ b).setCell ⟨g, 2, none⟩ c).setCell ⟨g, 3, none⟩ d).setCell ⟨g, 4, none⟩ e).setCell ⟨g, 5, none⟩ f) = w.setCells g 0 [a, b, c, d, e, f] := rfl
theorem six_blk6 {w : World} {g : Nat} {t : TypeId} {x0 x1 x2 x3 x4 x5 : Value} (a b c d e f : Value) (h : Blk w g t #[x0, x1, x2, x3, x4, x5]) : Blk (w.setCells g 0 [a, b, c, d, e, f]) g t #[a, b, c, d, e, f] := by
  have := six_blk a b c d e f h
  simpa using this
end Go.Proofs.YtfpdeiefkimaaaaGreatDoor
/-
  Layer 6 (hier): a world in memory: its entries, its names, what may turn while it stays what it is; plain laws.
-/
set_option linter.unusedSimpArgs false
set_option linter.unusedVariables false
namespace Go.Proofs.YtfpdeiefkimaaaaGreatDoor
open Go.RowKit Go.WideShapes

/-- The blocks of a class's lists. -/
def listF (vi vm : Value) (cs : List Value) : List Nat := Value.ob vi ++ (Value.ob vm ++ cs.flatMap Value.ob)
theorem Lists.keep {w w' : World} {n0 : Nat} {r : RdS} {vi vm : Value} {cs : List Value} (h : Lists w n0 r vi vm cs) {F : List Nat} (u : Upd w w' F) (hF : ∀ b, b ∈ listF vi vm cs → b ∉ F) : Lists w' n0 r vi vm cs :=
  ⟨h.len, u.own h.oi (fun k hk => hF k (List.mem_append_left _ hk)), u.own h.om (fun k hk => hF k (List.mem_append_right _ (List.mem_append_left _ hk))),
   fun i hi => u.own (h.oc i hi) (fun k hk => hF k (List.mem_append_right _ (List.mem_append_right _ (List.mem_flatMap.2 ⟨_, List.getElem_mem hi, hk⟩)))), h.bi, h.bm, h.bc, h.dis⟩
theorem Lists.blk_ne {w : World} {n0 : Nat} {r : RdS} {vi vm : Value} {cs : List Value} (h : Lists w n0 r vi vm cs) {g : Nat} {t : TypeId} {xs : Array Value} (hb : Blk w g t xs) (h1 : 9 ≠ t) (h2 : 86 ≠ t) (h3 : 90 ≠ t) : g ∉ listF vi vm cs := by
  intro hg
  rcases List.mem_append.1 hg with hg | hg
  · exact own_blk_ne h.oi hb h1 (mem_ob.1 hg)
  · rcases List.mem_append.1 hg with hg | hg
    · exact own_blk_ne h.om hb h2 (mem_ob.1 hg)
    · obtain ⟨v, hv, hg⟩ := List.mem_flatMap.1 hg
      obtain ⟨i, hi, rfl⟩ := List.getElem_of_mem hv
      exact own_blk_ne (h.oc i hi) hb h3 (mem_ob.1 hg)
theorem Lists.lt {w : World} {n0 : Nat} {r : RdS} {vi vm : Value} {cs : List Value} (h : Lists w n0 r vi vm cs) : ∀ b, b ∈ listF vi vm cs → b < w.heap.size := by
  intro b hb
  rcases List.mem_append.1 hb with hb | hb
  · exact (h.oi.lt b (mem_ob.1 hb)).2
  · rcases List.mem_append.1 hb with hb | hb
    · exact (h.om.lt b (mem_ob.1 hb)).2
    · obtain ⟨v, hv, hb⟩ := List.mem_flatMap.1 hb
      obtain ⟨i, hi, rfl⟩ := List.getElem_of_mem hv
      exact ((h.oc i hi).lt b (mem_ob.1 hb)).2
theorem Lists.ge {w : World} {n0 : Nat} {r : RdS} {vi vm : Value} {cs : List Value} (h : Lists w n0 r vi vm cs) : ∀ b, b ∈ listF vi vm cs → n0 ≤ b := by
  intro b hb
  rcases List.mem_append.1 hb with hb | hb
  · exact h.bi b (mem_ob.1 hb)
  · rcases List.mem_append.1 hb with hb | hb
    · exact h.bm b (mem_ob.1 hb)
    · obtain ⟨v, hv, hb⟩ := List.mem_flatMap.1 hb
      obtain ⟨i, hi, rfl⟩ := List.getElem_of_mem hv
      exact h.bc i hi b (mem_ob.1 hb)
theorem Lists.own_ne {w : World} {n0 : Nat} {r : RdS} {vi vm : Value} {cs : List Value} (h : Lists w n0 r vi vm cs) {base size n : Nat} {e : TypeId} {v : Value} {xs : List Value} (ho : w.ownsRow base e size v n xs) (h1 : 9 ≠ e) (h2 : 86 ≠ e) (h3 : 90 ≠ e) : ∀ b, b ∈ listF vi vm cs → b ∉ Value.ob v := by
  intro b hb hv
  have hv := mem_ob.1 hv
  rcases List.mem_append.1 hb with hb | hb
  · exact own_own_ne h.oi ho h1 (mem_ob.1 hb) hv
  · rcases List.mem_append.1 hb with hb | hb
    · exact own_own_ne h.om ho h2 (mem_ob.1 hb) hv
    · obtain ⟨u, hu, hb⟩ := List.mem_flatMap.1 hb
      obtain ⟨i, hi, rfl⟩ := List.getElem_of_mem hu
      exact own_own_ne (h.oc i hi) ho h3 (mem_ob.1 hb) hv

def numV (n : Int) : Value := .int .i64 n
def entCells (e : Ent) (vi vm : Value) (A : Option Addr) (cap : Nat) : Array Value := #[.string (bs e.r.nm), .string (bs e.r.sup), vi, .int .i64 e.r.fl, .int .i64 e.r.ld, vm, .int .i64 e.ab, .int .i64 e.dp, .slice A e.cl.length cap]
/-- What is known of a class that has arrived. -/
structure RdS.kept (r : RdS) : Prop where
  fine : r.fine
  wf : r.wf 100000
  st : r.st = 8
/-- An entry at block g; all its blocks are in S. -/
structure EntAt (w : World) (g : Nat) (e : Ent) (S : List Nat) (vi vm : Value) (cs : List Value) (A : Option Addr) (cap : Nat) : Prop where
  blk : Blk w g 97 (entCells e vi vm A cap)
  li : Lists w 0 e.r vi vm cs
  cl : w.ownsRow 0 3 1 (.slice A e.cl.length cap) e.cl.length (e.cl.map numV)
  hg : g ∈ S
  hl : ∀ b, b ∈ listF vi vm cs → b ∈ S
  hc : ∀ b, b ∈ Value.ob (.slice A e.cl.length cap) → b ∈ S
  kept : e.r.kept
def EntS (w : World) (g : Nat) (e : Ent) (S : List Nat) : Prop := ∃ vi vm cs A cap, EntAt w g e S vi vm cs A cap
theorem EntAt.far {w w' : World} {g : Nat} {e : Ent} {S : List Nat} {vi vm : Value} {cs : List Value} {A : Option Addr} {cap : Nat} (h : EntAt w g e S vi vm cs A cap) {F : List Nat} (u : Upd w w' F) (hF : ∀ b, b ∈ F → b ∉ S) : EntAt w' g e S vi vm cs A cap :=
  ⟨u.blk h.blk (fun hm => hF _ hm h.hg), h.li.keep u (fun b hb hm => hF b hm (h.hl b hb)), u.own h.cl (fun b hb hm => hF b hm (h.hc b hb)), h.hg, h.hl, h.hc, h.kept⟩
theorem EntAt.mono {w : World} {g : Nat} {e : Ent} {S S' : List Nat} {vi vm : Value} {cs : List Value} {A : Option Addr} {cap : Nat} (h : EntAt w g e S vi vm cs A cap) (hS : ∀ b, b ∈ S → b ∈ S') : EntAt w g e S' vi vm cs A cap :=
  ⟨h.blk, h.li, h.cl, hS _ h.hg, fun b hb => hS b (h.hl b hb), fun b hb => hS b (h.hc b hb), h.kept⟩
/-- Blocks of other types are none of an entry's. -/
theorem EntAt.upd {w w' : World} {g : Nat} {e : Ent} {S : List Nat} {vi vm : Value} {cs : List Value} {A : Option Addr} {cap : Nat} (h : EntAt w g e S vi vm cs A cap) {F : List Nat} (u : Upd w w' F) (h1 : g ∉ F) (h2 : ∀ b, b ∈ listF vi vm cs → b ∉ F) (h3 : ∀ b, b ∈ Value.ob (.slice A e.cl.length cap) → b ∉ F) : EntAt w' g e S vi vm cs A cap :=
  ⟨u.blk h.blk h1, h.li.keep u h2, u.own h.cl h3, h.hg, h.hl, h.hc, h.kept⟩
/-- A world at block b; all its blocks are in S. -/
structure HWo (w : World) (b : Nat) (es : List Ent) (S : List Nat) (A : Option Addr) (cap mb n : Nat) (D : DataW Unit) (gs : List Nat) : Prop where
  box : WBox w b A cap (.map (some mb)) gs
  len : gs.length = es.length
  mp : w.ownsMap Tryz.prog 9 (plainElem Tryz.prog 3) mb n D
  n : n ≤ es.length
  nms : Names D (es.map fun e => e.r.nm)
  ent : ∀ k (h : k < es.length) (h' : k < gs.length), EntS w gs[k] es[k] S
  hb : b ∈ S
  hm : mb ∈ S
  ha : ∀ k, k ∈ Value.ob (.slice A gs.length cap) → k ∈ S
  lt : ∀ k, k ∈ S → k < w.heap.size
  good : Good es
def HW (w : World) (b mb : Nat) (es : List Ent) (S : List Nat) : Prop := ∃ A cap n D gs, HWo w b es S A cap mb n D gs
theorem HWo.far {w w' : World} {b : Nat} {es : List Ent} {S : List Nat} {A : Option Addr} {cap mb n : Nat} {D : DataW Unit} {gs : List Nat} (h : HWo w b es S A cap mb n D gs) {F : List Nat} (u : Upd w w' F) (hF : ∀ k, k ∈ F → k ∉ S) : HWo w' b es S A cap mb n D gs := by
  refine ⟨⟨u.blk h.box.blk (fun hm => hF _ hm h.hb), u.own h.box.all (fun k hk hm => hF k hm (h.ha k hk))⟩, h.len, ?_, h.n, h.nms, fun k h1 h2 => ?_, h.hb, h.hm, h.ha, fun k hk => Nat.lt_of_lt_of_le (h.lt k hk) u.size, h.good⟩
  · obtain ⟨es, clock, hb, rest⟩ := h.mp
    exact ⟨es, clock, (u.block mb (h.lt mb h.hm) (fun hm => hF mb hm h.hm)).trans hb, rest⟩
  · obtain ⟨vi, vm, cs, A', cap', he⟩ := h.ent k h1 h2
    exact ⟨vi, vm, cs, A', cap', he.far u hF⟩
theorem HW.far {w w' : World} {b mb : Nat} {es : List Ent} {S : List Nat} (h : HW w b mb es S) {F : List Nat} (u : Upd w w' F) (hF : ∀ k, k ∈ F → k ∉ S) : HW w' b mb es S := by
  obtain ⟨A, cap, n, D, gs, h⟩ := h
  exact ⟨A, cap, n, D, gs, h.far u hF⟩
theorem HWo.upd {w w' : World} {b : Nat} {es : List Ent} {S : List Nat} {A : Option Addr} {cap mb n : Nat} {D : DataW Unit} {gs : List Nat} (h : HWo w b es S A cap mb n D gs) (u : Upd w w' []) : HWo w' b es S A cap mb n D gs := h.far u (by simp)
theorem HW.upd {w w' : World} {b mb : Nat} {es : List Ent} {S : List Nat} (h : HW w b mb es S) (u : Upd w w' []) : HW w' b mb es S := h.far u (by simp)
theorem HW.lt {w : World} {b mb : Nat} {es : List Ent} {S : List Nat} (h : HW w b mb es S) : ∀ k, k ∈ S → k < w.heap.size := by
  obtain ⟨A, cap, n, D, gs, h⟩ := h
  exact h.lt
theorem HW.good {w : World} {b mb : Nat} {es : List Ent} {S : List Nat} (h : HW w b mb es S) : Good es := by
  obtain ⟨A, cap, n, D, gs, h⟩ := h
  exact h.good
theorem map_blk_ne {w : World} {P : Program} {k : TypeId} {R : Value → Option (DataW Unit × List MemPlace)} {mb n : Nat} {D : DataW Unit} (h : w.ownsMap P k R mb n D) {g : Nat} {t : TypeId} {cs : Array Value} (hb : Blk w g t cs) : g ≠ mb := by
  rintro rfl
  obtain ⟨es, clock, hm, -⟩ := h
  unfold Blk at hb
  rw [hm] at hb
  cases hb
theorem map_own_ne {w : World} {P : Program} {k : TypeId} {R : Value → Option (DataW Unit × List MemPlace)} {mb n : Nat} {D : DataW Unit} (h : w.ownsMap P k R mb n D) {base size m : Nat} {e : TypeId} {v : Value} {xs : List Value} (ho : w.ownsRow base e size v m xs) : v.ownBlock ≠ some mb := by
  rcases ho.2 with ⟨rfl, _⟩ | ⟨g, cap, cur, rfl, _, hh, _⟩
  · simp [Value.ownBlock]
  · intro he
    exact map_blk_ne h (g := g) (t := e) hh (by simpa [Value.ownBlock] using he)
theorem Lists.map_ne {w : World} {n0 : Nat} {r : RdS} {vi vm : Value} {cs : List Value} (h : Lists w n0 r vi vm cs) {P : Program} {k : TypeId} {R : Value → Option (DataW Unit × List MemPlace)} {mb n : Nat} {D : DataW Unit} (hm : w.ownsMap P k R mb n D) : mb ∉ listF vi vm cs := by
  intro hg
  rcases List.mem_append.1 hg with hg | hg
  · exact map_own_ne hm h.oi (mem_ob.1 hg)
  · rcases List.mem_append.1 hg with hg | hg
    · exact map_own_ne hm h.om (mem_ob.1 hg)
    · obtain ⟨v, hv, hg⟩ := List.mem_flatMap.1 hg
      obtain ⟨i, hi, rfl⟩ := List.getElem_of_mem hv
      exact map_own_ne hm (h.oc i hi) (mem_ob.1 hg)
theorem ne_se : 9 ≠ 94 := by decide
theorem ne_me : 86 ≠ 94 := by decide
theorem ne_ie : 90 ≠ 94 := by decide
theorem ne_sW : 9 ≠ 77 := by decide
theorem ne_mW : 86 ≠ 77 := by decide
theorem ne_iW : 90 ≠ 77 := by decide
/-- What is written at a new class: the world's block, its row of entries, its map. -/
def putF (b mb : Nat) (A : Option Addr) (n cap : Nat) : List Nat := b :: mb :: Value.ob (.slice A n cap)
/-- An entry stays what it is while its world's own blocks are written. -/
theorem EntAt.stay {w w' : World} {g b mb n cap n' cap' : Nat} {e : Ent} {S : List Nat} {vi vm : Value} {cs : List Value} {A' : Option Addr} (h : EntAt w g e S vi vm cs A' cap') {A : Option Addr} {m : Value} {xs : List Value} {D : DataW Unit}
    (hb : Blk w b 77 #[.slice A n cap, m]) (ho : w.ownsRow 0 94 1 (.slice A n cap) n xs) (hm : w.ownsMap Tryz.prog 9 (plainElem Tryz.prog 3) mb n' D) (u : Upd w w' (putF b mb A n cap)) : EntAt w' g e S vi vm cs A' cap' := by
  refine h.upd u ?_ ?_ ?_
  · intro hg
    rcases List.mem_cons.1 hg with rfl | hg
    · exact Blk.ne_ h.blk hb (by decide) rfl
    · rcases List.mem_cons.1 hg with rfl | hg
      · exact map_blk_ne hm h.blk rfl
      · exact own_blk_ne ho h.blk (by decide) (mem_ob.1 hg)
  · intro k hk hg
    rcases List.mem_cons.1 hg with rfl | hg
    · exact h.li.blk_ne hb ne_sW ne_mW ne_iW hk
    · rcases List.mem_cons.1 hg with rfl | hg
      · exact h.li.map_ne hm hk
      · exact h.li.own_ne ho ne_se ne_me ne_ie k hk hg
  · intro k hk hg
    rcases List.mem_cons.1 hg with rfl | hg
    · exact own_blk_ne h.cl hb (by decide) (mem_ob.1 hk)
    · rcases List.mem_cons.1 hg with rfl | hg
      · exact map_own_ne hm h.cl (mem_ob.1 hk)
      · exact own_own_ne h.cl ho (by decide) (mem_ob.1 hk) (mem_ob.1 hg)
/-- A class is laid: an entry more. -/
theorem HWo.put {w w1 w3 : World} {b : Nat} {es : List Ent} {S S2 : List Nat} {A A' : Option Addr} {cap cap' mb n ge : Nat} {D : DataW Unit} {gs : List Nat} (h : HWo w b es S A cap mb n D gs) {e : Ent} (he : EntS w ge e S2) (hx : e.r.nm ∉ es.map fun e => e.r.nm) (hS2 : ∀ k, k ∈ S2 → k < w.heap.size)
    (ho : w1.ownsRow 0 94 1 (.slice A' (gs.length + 1) cap') (gs.length + 1) (gs.map ptrV ++ [ptrV ge])) (hg : w.grownBy w1 (Value.slice A gs.length cap).ownBlock)
    (hm : w3.ownsMap Tryz.prog 9 (plainElem Tryz.prog 3) mb (n + 1) (D.put (.string e.r.nm) (.lit (.int .i64 es.length)))) (hg3 : (w1.setCell ⟨b, 0, none⟩ (.slice A' (gs.length + 1) cap')).grownBy w3 (some mb)) (hgood : Good (es ++ [e])) :
    HWo w3 b (es ++ [e]) (S ++ S2 ++ Value.ob (.slice A' (gs.length + 1) cap')) A' cap' mb (n + 1) (D.put (.string e.r.nm) (.lit (.int .i64 es.length))) (gs ++ [ge]) ∧ Upd w w3 (putF b mb A gs.length cap) := by
  have hB1 : Blk w1 b 77 #[.slice A gs.length cap, .map (some mb)] := h.box.blk.grown_own hg h.box.all (by decide)
  have hmlt := h.lt mb h.hm
  have hblt := h.lt b h.hb
  have hbm : b ≠ mb := map_blk_ne h.mp h.box.blk
  have hu1 : Upd w w1 (putF b mb A gs.length cap) := (Upd.refl w _).grown hg (fun k hk => .inl (List.mem_cons_of_mem _ (List.mem_cons_of_mem _ (mem_ob.2 hk))))
  have hu2 := hu1.setCell (p := ⟨b, 0, none⟩) (.inl (List.mem_cons_self ..)) (.slice A' (gs.length + 1) cap')
  have hu3 : Upd w w3 (putF b mb A gs.length cap) := hu2.grown hg3 (fun k hk => .inl (by cases hk; exact List.mem_cons_of_mem _ (List.mem_cons_self ..)))
  have hB2 : Blk (w1.setCell ⟨b, 0, none⟩ (.slice A' (gs.length + 1) cap')) b 77 #[.slice A' (gs.length + 1) cap', .map (some mb)] := hB1.set_ 0 _
  have hB3 : Blk w3 b 77 #[.slice A' (gs.length + 1) cap', .map (some mb)] := hB2.grown hg3 (fun e => hbm (Option.some.inj e))
  have ho2 : (w1.setCell ⟨b, 0, none⟩ (.slice A' (gs.length + 1) cap')).ownsRow 0 94 1 (.slice A' (gs.length + 1) cap') (gs.length + 1) (gs.map ptrV ++ [ptrV ge]) := ownsRow_setCell_other ho (own_blk_ne ho hB1 (by decide)) _
  have hz1 : w.heap.size ≤ w1.heap.size := hg.size
  have hz3 : w1.heap.size ≤ w3.heap.size := by have := hg3.size; simpa [World.setCell] using this
  have hm1 : w1.ownsMap Tryz.prog 9 (plainElem Tryz.prog 3) mb n D := h.mp.kept hg (fun e => map_own_ne h.mp h.box.all e.symm)
  have hne : (Value.slice A' (gs.length + 1) cap').ownBlock ≠ some mb := map_own_ne hm1 ho
  have ho3 : w3.ownsRow 0 94 1 (.slice A' (gs.length + 1) cap') (gs.length + 1) (gs.map ptrV ++ [ptrV ge]) := ho2.kept hg3 (.inr hne)
  have hl := h.len
  refine ⟨⟨⟨?_, ?_⟩, by simp [hl], hm, by have := h.n; simp; omega, ?_, fun k h1 h2 => ?_, ?_, ?_, ?_, ?_, hgood⟩, hu3⟩
  · rw [List.length_append, List.length_singleton]; exact hB3
  · rw [List.length_append, List.length_singleton, List.map_append]; exact ho3
  · rw [List.map_append]
    have := h.nms.snoc (x := e.r.nm) hx
    rw [List.length_map] at this
    exact this
  · by_cases hk : k < es.length
    · rw [List.getElem_append_left hk, List.getElem_append_left (by omega)]
      obtain ⟨vi, vm, cs, A1, cap1, he1⟩ := h.ent k hk (by omega)
      exact ⟨vi, vm, cs, A1, cap1, (he1.stay h.box.blk h.box.all h.mp hu3).mono (fun x hx => List.mem_append_left _ (List.mem_append_left _ hx))⟩
    · have : k = es.length := by simp at h1; omega
      subst this
      rw [List.getElem_append_right (by omega), List.getElem_append_right (by omega)]
      simp only [hl, Nat.sub_self, List.getElem_cons_zero]
      obtain ⟨vi, vm, cs, A1, cap1, he1⟩ := he
      exact ⟨vi, vm, cs, A1, cap1, (he1.stay h.box.blk h.box.all h.mp hu3).mono (fun x hx => List.mem_append_left _ (List.mem_append_right _ hx))⟩
  · exact List.mem_append_left _ (List.mem_append_left _ h.hb)
  · exact List.mem_append_left _ (List.mem_append_left _ h.hm)
  · intro k hk
    rw [List.length_append, List.length_singleton] at hk
    exact List.mem_append_right _ hk
  · intro k hk
    rcases List.mem_append.1 hk with hk | hk
    · rcases List.mem_append.1 hk with hk | hk
      · have := h.lt k hk; omega
      · have := hS2 k hk; omega
    · exact (ho3.lt k (mem_ob.1 hk)).2
end Go.Proofs.YtfpdeiefkimaaaaGreatDoor
