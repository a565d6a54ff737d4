/-
  put: a class whose names are found is laid; walked. (Layer 6.)
-/
import Derived.Test.YtfpdeiefkimaaaaGreatDoorR3
import Derived.Test.YtfpdeiefkimaaaaGreatDoorR1
import Derived.Test.YtfpdeiefkimaaaaGreatDoorR2
import Derived.Test.YtfpdeiefkimaaaaGreatDoorR4
import Derived.Deep.DeepCutAuto
set_option linter.unusedSimpArgs false
set_option linter.unusedVariables false
namespace Go.Proofs.YtfpdeiefkimaaaaGreatDoor
open Go.RowKit Go.WideShapes Go.Maps Go.WideMaps

theorem own_le {w : World} {b0 b1 : Nat} {e : TypeId} {size n : Nat} {v : Value} {xs : List Value} (h : w.ownsRow b1 e size v n xs) (hb : b0 ≤ b1) : w.ownsRow b0 e size v n xs := by
  obtain ⟨h1, h2⟩ := h
  rcases h2 with h2 | ⟨g, cap, cur, rfl, hb1, rest⟩
  · exact ⟨h1, .inl h2⟩
  · exact ⟨h1, .inr ⟨g, cap, cur, rfl, Nat.le_trans hb hb1, rest⟩⟩
theorem infoPE : (Tryz.prog.info? 94).map (fun i => (i.zero, i.size, i.bytes)) = some (some (.pointer none), 1, 8) := by kernel_rfl
/-- While a class is laid: its entry (block ge), the pointer to it (block cv), the closure so far. -/
structure PutI (w : World) (e : Ent) (vi vm : Value) (W : World) : Prop where
  ex : ∃ A cap, Blk W (w.heap.size + 1) 97 (entCells e vi vm A cap) ∧ W.ownsRow w.heap.size 3 1 (.slice A e.cl.length cap) e.cl.length (e.cl.map numV)
  cv : Blk W (w.heap.size + 2) 94 #[.pointer (some ⟨w.heap.size + 1, 0, none⟩)]
  cls : Blk W w.heap.size 46 #[.string (bs e.r.nm), .string (bs e.r.sup), vi, .int .i64 e.r.fl, .int .i64 e.r.ld, vm]
  upd : Upd w W []
/-- A number more. -/
theorem PutI.add {w : World} {r : RdS} {ab dp : Int} {l : List Int} {vi vm : Value} {W : World} (h : PutI w ⟨r, ab, dp, l⟩ vi vm W) (x : Int) (hl : l.length ≤ 1000) :
    Calls Tryz.prog 70 #[.int .i64 x, .pointer (some ⟨w.heap.size + 2, 0, none⟩)] W fun e W' => e = .returned (.tuple #[]) ∧ PutI w ⟨r, ab, dp, addI l x⟩ vi vm W' ∧ W.heap.size ≤ W'.heap.size := by
  obtain ⟨A, cap, hb, ho⟩ := h.ex
  have hcv := h.cv
  refine (add_any w.heap.size (w.heap.size + 2) (w.heap.size + 1) _ _ _ _ _ _ _ _ A cap l x W ((hcv.cell 0).trans rfl) (by omega) hb ho hl (by have := h.upd.size; omega) (own_blk_ne ho hcv (by decide))).mono ?_
  rintro e W' ⟨rfl, A', cap', hb', ho', hu⟩
  refine ⟨rfl, ⟨⟨A', cap', hb', ho'⟩, ?_, ?_, ?_⟩, hu.size⟩
  · refine hu.blk hcv ?_
    intro hm
    rcases List.mem_cons.1 hm with hm | hm
    · omega
    · exact own_blk_ne ho hcv (by decide) (mem_ob.1 hm)
  · refine hu.blk h.cls ?_
    intro hm
    rcases List.mem_cons.1 hm with hm | hm
    · omega
    · exact own_blk_ne ho h.cls (by decide) (mem_ob.1 hm)
  · have := h.upd
    refine ⟨hu.os.trans this.os, hu.tape.trans this.tape, hu.output.trans this.output, Nat.le_trans this.size hu.size, fun b hb _ => (hu.block b (Nat.lt_of_lt_of_le hb this.size) ?_).trans (this.block b hb (by simp))⟩
    intro hm
    rcases List.mem_cons.1 hm with hm | hm
    · omega
    · have := own_base ho b (mem_ob.1 hm)
      omega
/-- THE WALK -/
theorem put_start (w : World) (r : RdS) (ab : Int) (A1 A2 : Option Addr) (n1 n2 k1 k2 : Nat) :
    PutI w ⟨r, ab, 0, []⟩ (.slice A1 n1 k1) (.slice A2 n2 k2) (((w.alloc (.cells #[.string (bs r.nm), .string (bs r.sup), .slice A1 n1 k1, .int .i64 r.fl, .int .i64 r.ld, .slice A2 n2 k2] 46)).alloc (.cells #[.string (bs r.nm), .string (bs r.sup), .slice A1 n1 k1, .int .i64 r.fl, .int .i64 r.ld, .slice A2 n2 k2, .int .i64 ab, .int .i64 0, .slice none 0 0] 97)).alloc (.cells #[.pointer (some ⟨w.heap.size + 1, 0, none⟩)] 94)) := by
  have hC := ((Blk.new w 46 #[.string (bs r.nm), .string (bs r.sup), .slice A1 n1 k1, .int .i64 r.fl, .int .i64 r.ld, .slice A2 n2 k2]).alloc (.cells #[.string (bs r.nm), .string (bs r.sup), .slice A1 n1 k1, .int .i64 r.fl, .int .i64 r.ld, .slice A2 n2 k2, .int .i64 ab, .int .i64 0, .slice none 0 0] 97)).alloc (.cells #[.pointer (some ⟨w.heap.size + 1, 0, none⟩)] 94)
  have hE := (Blk.new_at (w := w.alloc (.cells #[.string (bs r.nm), .string (bs r.sup), .slice A1 n1 k1, .int .i64 r.fl, .int .i64 r.ld, .slice A2 n2 k2] 46)) (t := 97) (cs := #[.string (bs r.nm), .string (bs r.sup), .slice A1 n1 k1, .int .i64 r.fl, .int .i64 r.ld, .slice A2 n2 k2, .int .i64 ab, .int .i64 0, .slice none 0 0]) (g := w.heap.size + 1) (by simp)).alloc (.cells #[.pointer (some ⟨w.heap.size + 1, 0, none⟩)] 94)
  have hP := Blk.new_at (w := (w.alloc (.cells #[.string (bs r.nm), .string (bs r.sup), .slice A1 n1 k1, .int .i64 r.fl, .int .i64 r.ld, .slice A2 n2 k2] 46)).alloc (.cells #[.string (bs r.nm), .string (bs r.sup), .slice A1 n1 k1, .int .i64 r.fl, .int .i64 r.ld, .slice A2 n2 k2, .int .i64 ab, .int .i64 0, .slice none 0 0] 97)) (t := 94) (cs := #[.pointer (some ⟨w.heap.size + 1, 0, none⟩)]) (g := w.heap.size + 2) (by simp)
  have hU := (((Upd.refl w []).alloc (.cells #[.string (bs r.nm), .string (bs r.sup), .slice A1 n1 k1, .int .i64 r.fl, .int .i64 r.ld, .slice A2 n2 k2] 46)).alloc (.cells #[.string (bs r.nm), .string (bs r.sup), .slice A1 n1 k1, .int .i64 r.fl, .int .i64 r.ld, .slice A2 n2 k2, .int .i64 ab, .int .i64 0, .slice none 0 0] 97)).alloc (.cells #[.pointer (some ⟨w.heap.size + 1, 0, none⟩)] 94)
  exact ⟨⟨none, 0, hE, World.ownsRow_nil _ _ _ _⟩, hP, hC, hU⟩
/-- The depth is written. -/
theorem PutI.depth {w : World} {r : RdS} {ab dp : Int} {l : List Int} {vi vm : Value} {W : World} (h : PutI w ⟨r, ab, dp, l⟩ vi vm W) (d : Int) : PutI w ⟨r, ab, d, l⟩ vi vm (W.setCell ⟨w.heap.size + 1, 7, none⟩ (.int .i64 d)) := by
  obtain ⟨A, cap, hb, ho⟩ := h.ex
  refine ⟨⟨A, cap, hb.set_ 7 _, ownsRow_setCell_other ho (own_blk_ne ho hb (by decide)) _⟩, h.cv.far (p := ⟨w.heap.size + 1, 7, none⟩) (by show w.heap.size + 2 ≠ w.heap.size + 1; omega) _, h.cls.far (p := ⟨w.heap.size + 1, 7, none⟩) (by show w.heap.size ≠ w.heap.size + 1; omega) _, h.upd.setCell (.inr (by show w.heap.size ≤ w.heap.size + 1; omega)) _⟩
theorem PutI.drew {w : World} {e : Ent} {vi vm : Value} {W : World} (h : PutI w e vi vm W) : PutI w e vi vm W.drew := ⟨h.ex, h.cv, h.cls, h.upd.drew⟩
/-- The closure is written. -/
theorem PutI.close {w : World} {r : RdS} {ab dp : Int} {l : List Int} {vi vm : Value} {W W2 : World} (h : PutI w ⟨r, ab, dp, l⟩ vi vm W) (u : Upd W W2 []) (m : List Int) {A' : Option Addr} {cap' : Nat} (ho' : W2.ownsRow W.heap.size 3 1 (.slice A' m.length cap') m.length (m.map numV)) :
    PutI w ⟨r, ab, dp, m⟩ vi vm (W2.setCell ⟨w.heap.size + 1, 8, none⟩ (.slice A' m.length cap')) := by
  obtain ⟨A, cap, hb, ho⟩ := h.ex
  have hb2 := u.blk hb (by simp)
  have hz := h.upd.size
  refine ⟨⟨A', cap', hb2.set_ 8 _, ownsRow_setCell_other (own_le ho' hz) (own_blk_ne ho' hb2 (by decide)) _⟩, (u.blk h.cv (by simp)).far (p := ⟨w.heap.size + 1, 8, none⟩) (by show w.heap.size + 2 ≠ w.heap.size + 1; omega) _, (u.blk h.cls (by simp)).far (p := ⟨w.heap.size + 1, 8, none⟩) (by show w.heap.size ≠ w.heap.size + 1; omega) _, (h.upd.trans u).setCell (.inr (by show w.heap.size ≤ w.heap.size + 1; omega)) _⟩
/-- An entry is read. -/
theorem HWo.read {W : World} {b : Nat} {es : List Ent} {S : List Nat} {A : Option Addr} {cap mb n : Nat} {D : DataW Unit} {gs : List Nat} (h : HWo W b es S A cap mb n D gs) {k : Nat} (hk : k < es.length) {e : Ent} (he : es[k] = e) :
    ∃ g ge vi vm cs A' cap', A = some ⟨g, 0, none⟩ ∧ g < W.heap.size ∧ W.cell? ⟨b, 0, none⟩ = some (.slice A gs.length cap) ∧ b < W.heap.size ∧ k < gs.length ∧ W.cell? ⟨g, k, none⟩ = some (.pointer (some ⟨ge, 0, none⟩)) ∧ gs[k]? = some ge ∧ EntAt W ge e S vi vm cs A' cap' ∧ ge < W.heap.size ∧ W.cell? ⟨ge, 7, none⟩ = some (.int .i64 e.dp) ∧ W.cell? ⟨ge, 8, none⟩ = some (.slice A' e.cl.length cap') := by
  have hkg : k < gs.length := by rw [h.len]; exact hk
  obtain ⟨vi, vm, cs, A', cap', he'⟩ := h.ent k hk hkg
  rw [he] at he'
  obtain ⟨g, capg, hv, -, -, hlt⟩ := own_form h.box.all (by omega)
  have hall := h.box.all
  cases hv
  have y0 := hall.cellAt k (by omega)
  rw [List.getElem?_map, List.getElem?_eq_getElem hkg] at y0
  exact ⟨g, gs[k], vi, vm, cs, A', cap', rfl, hlt, (h.box.blk.cell 0).trans rfl, h.box.blk.lt, hkg, y0, List.getElem?_eq_getElem hkg, he', he'.blk.lt, (he'.blk.cell 7).trans rfl, (he'.blk.cell 8).trans rfl⟩
theorem clone_intsR {w : World} {base cap : Nat} {A : Option Addr} {l : List Int} (h : w.ownsRow base 3 1 (.slice A l.length cap) l.length (l.map numV)) (hl : l.length ≤ 1000000) : Calls Tryz.prog 69 #[.slice A l.length cap] w fun e w' => ∃ A' c', e = .returned (.slice A' l.length c') ∧ w'.ownsRow w.heap.size 3 1 (.slice A' l.length c') l.length (l.map numV) ∧ Upd w w' [] := by
  refine clone_ints A l.length cap (l.map numV) w (by simp) (fun hne => ?_) (fun u hu => ?_) (fun e => ?_) (by omega)
  · have hA := ints_own h (fun e => hne (by rw [e]; rfl))
    obtain ⟨bk, off, e, -, hc⟩ := hA
    refine ⟨_, e, fun j u hj => ?_⟩
    rw [Addr.add_mid]
    have hjl : j < l.length := by have := (List.getElem?_eq_some_iff.1 hj).1; simpa using this
    rw [List.getElem?_map, List.getElem?_eq_getElem hjl] at hj
    rw [hc j hjl]
    exact hj
  · obtain ⟨x, -, rfl⟩ := List.mem_map.1 hu
    rfl
  · by_cases hm : l = []
    · rw [hm]; rfl
    · obtain ⟨bk, off, he, -⟩ := ints_own h hm
      rw [e] at he
      cases he
/-- The end: the row of entries has one more, the map too. -/
theorem put_final {w wr W w1 w3 : World} {b : Nat} {es : List Ent} {S : List Nat} {A A' : Option Addr} {cap cap' mb n : Nat} {D : DataW Unit} {gs : List Nat} (h : HWo w b es S A cap mb n D gs) {r : RdS} {ab : Int} {ids : List Nat} {vi vm : Value} {cs : List Value} (hP : PutI w (putOf es r ab ids) vi vm wr) (hl : Lists w 0 r vi vm cs) (hk : r.kept) (hx : r.nm ∉ es.map fun e => e.r.nm) (hes : es.length < 300) (hab : -1 ≤ ab ∧ ab < es.length) (hids : ∀ i, i ∈ ids → i < es.length) (hu : Upd wr W [])
    (ho : w1.ownsRow 0 94 1 (.slice A' (gs.length + 1) cap') (gs.length + 1) (gs.map ptrV ++ [ptrV (w.heap.size + 1)])) (hg : W.grownBy w1 (Value.slice A gs.length cap).ownBlock) (hat : ∀ k, (Value.slice A' (gs.length + 1) cap').ownBlock = some k → (Value.slice A gs.length cap).ownBlock = some k ∨ W.heap.size ≤ k)
    (hm : w3.ownsMap Tryz.prog 9 (plainElem Tryz.prog 3) mb (n + 1) (D.put (.string r.nm) (.lit (.int .i64 es.length)))) (hg3 : (w1.setCell ⟨b, 0, none⟩ (.slice A' (gs.length + 1) cap')).grownBy w3 (some mb)) :
    ∃ S', HW w3 b mb (es ++ [putOf es r ab ids]) S' ∧ Upd w w3 (putF b mb A gs.length cap) ∧ (∀ k, k ∈ S' → k ∈ S ∨ k ∈ listF vi vm cs ∨ w.heap.size ≤ k) := by
  obtain ⟨Ae, ce, hB, hO⟩ := hP.ex
  have hU := hP.upd.trans hu
  have hW := h.upd hU
  have hBW := hu.blk hB (by simp)
  have hOW := hu.own hO (by simp)
  have hLW := hl.keep hU (by simp)
  have hE : EntAt W (w.heap.size + 1) (putOf es r ab ids) ((w.heap.size + 1) :: (listF vi vm cs ++ Value.ob (.slice Ae (putOf es r ab ids).cl.length ce))) vi vm cs Ae ce :=
    ⟨hBW, hLW, own_weak hOW, List.mem_cons_self .., fun k hk => List.mem_cons_of_mem _ (List.mem_append_left _ hk), fun k hk => List.mem_cons_of_mem _ (List.mem_append_right _ hk), hk⟩
  have hlt : ∀ k, k ∈ ((w.heap.size + 1) :: (listF vi vm cs ++ Value.ob (.slice Ae (putOf es r ab ids).cl.length ce))) → k < W.heap.size := by
    intro k hk
    rcases List.mem_cons.1 hk with rfl | hk
    · exact hBW.lt
    · rcases List.mem_append.1 hk with hk | hk
      · exact hLW.lt k hk
      · exact (hOW.lt k (mem_ob.1 hk)).2
  obtain ⟨hF, hUF⟩ := hW.put (e := putOf es r ab ids) ⟨_, _, _, _, _, hE⟩ hx hlt ho hg hm hg3 (h.good.put r ab ids hes hab.1 hab.2 hids)
  refine ⟨_, ⟨_, _, _, _, _, hF⟩, (hU.mono (by simp)).trans hUF, fun k hk => ?_⟩
  rcases List.mem_append.1 hk with hk | hk
  · rcases List.mem_append.1 hk with hk | hk
    · exact .inl hk
    · rcases List.mem_cons.1 hk with rfl | hk
      · exact .inr (.inr (by omega))
      · rcases List.mem_append.1 hk with hk | hk
        · exact .inr (.inl hk)
        · exact .inr (.inr (own_base hOW k (mem_ob.1 hk)))
  · have hk := mem_ob.1 hk
    rcases hat k hk with hold | hnew
    · exact .inl (h.ha k (mem_ob.2 hold))
    · exact .inr (.inr (Nat.le_trans hU.size hnew))
/-- Behind the append: what the map's write needs, and what follows from it. -/
theorem put_mid {w wr W w' : World} {b : Nat} {es : List Ent} {S : List Nat} {A : Option Addr} {cap cap' mb n g' : Nat} {D : DataW Unit} {gs : List Nat} (h : HWo w b es S A cap mb n D gs) {r : RdS} {ab : Int} {ids : List Nat} {vi vm : Value} {cs : List Value} (hP : PutI w (putOf es r ab ids) vi vm wr) (hl : Lists w 0 r vi vm cs) (hk : r.kept) (hx : r.nm ∉ es.map fun e => e.r.nm) (hes : es.length < 300) (hab : -1 ≤ ab ∧ ab < es.length) (hids : ∀ i, i ∈ ids → i < es.length)
    (hg : W.grownBy w' (Value.slice A gs.length cap).ownBlock) (hh : W.heap = (wr.alloc (.cells #[.pointer (some ⟨w.heap.size + 1, 0, none⟩)] 94)).heap) (h1 : W.os = wr.os) (h2 : W.tape = wr.tape) (h3 : W.output = wr.output)
    (ho : w'.ownsRow 0 94 1 (.slice (some ⟨g', 0, none⟩) (gs.length + 1) cap') (gs.length + 1) (gs.map ptrV ++ [ptrV (w.heap.size + 1)])) (hat : (Value.slice A gs.length cap).ownBlock = some g' ∨ g' = W.heap.size) :
    ((∃ v, w'.cell? ⟨b, 0, none⟩ = some v) ∧ w'.frozen? ⟨b, 0, none⟩ = false ∧ b < w'.heap.size) ∧
    Hid (Blk (w'.setCell ⟨b, 0, none⟩ (.slice (some ⟨g', 0, none⟩) (gs.length + 1) cap')) b 77 #[.slice (some ⟨g', 0, none⟩) (gs.length + 1) cap', .map (some mb)] ∧ Blk (w'.setCell ⟨b, 0, none⟩ (.slice (some ⟨g', 0, none⟩) (gs.length + 1) cap')) w.heap.size 46 #[.string (bs r.nm), .string (bs r.sup), vi, .int .i64 r.fl, .int .i64 r.ld, vm] ∧
      (w'.setCell ⟨b, 0, none⟩ (.slice (some ⟨g', 0, none⟩) (gs.length + 1) cap')).ownsMap Tryz.prog 9 (plainElem Tryz.prog 3) mb n D ∧
      ∀ w7, w7.ownsMap Tryz.prog 9 (plainElem Tryz.prog 3) mb (n + 1) (D.put (.string r.nm) (.lit (.int .i64 es.length))) → (w'.setCell ⟨b, 0, none⟩ (.slice (some ⟨g', 0, none⟩) (gs.length + 1) cap')).grownBy w7 (some mb) →
        ∃ S', HW w7 b mb (es ++ [putOf es r ab ids]) S' ∧ Upd w w7 (putF b mb A gs.length cap) ∧ (∀ k, k ∈ S' → k ∈ S ∨ k ∈ listF vi vm cs ∨ w.heap.size ≤ k)) := by
  have hs : W.heap.size = wr.heap.size + 1 := by rw [hh]; simp
  have hu : Upd wr W [] := ⟨h1, h2, h3, by omega, fun k hk _ => by rw [hh]; exact Below.heap_alloc wr _ k hk⟩
  have hW := h.upd (hP.upd.trans hu)
  have hB : Blk w' b 77 #[.slice A gs.length cap, .map (some mb)] := hW.box.blk.grown_own hg hW.box.all (by decide)
  have hC : Blk w' w.heap.size 46 #[.string (bs r.nm), .string (bs r.sup), vi, .int .i64 r.fl, .int .i64 r.ld, vm] := (hu.blk hP.cls (by simp)).grown_own hg hW.box.all (by decide)
  have hM : w'.ownsMap Tryz.prog 9 (plainElem Tryz.prog 3) mb n D := hW.mp.kept hg (fun e => map_own_ne hW.mp hW.box.all e.symm)
  have hbw : w.heap.size ≠ b := by have := h.box.blk.lt; omega
  refine ⟨⟨⟨_, (hB.cell 0).trans rfl⟩, hB.frozen 0, hB.lt⟩, hid ⟨hB.set_ 0 _, hC.far (p := ⟨b, 0, none⟩) hbw _, hM.setCell (a := ⟨b, 0, none⟩) (fun e => map_blk_ne hM hB e.symm) _, fun w7 hm hg7 => ?_⟩⟩
  exact put_final h hP hl hk hx hes hab hids hu ho hg (fun k hk => by
    simp only [Value.ownBlock, Option.some.injEq] at hk
    subst hk
    rcases hat with hat | hat
    · exact .inl hat
    · exact .inr (Nat.le_of_eq hat.symm)) hm hg7
set_option maxHeartbeats 16000000 in
set_option maxRecDepth 100000 in
theorem put_any {w : World} {b : Nat} {es : List Ent} {S : List Nat} {A : Option Addr} {cap mb n : Nat} {D : DataW Unit} {gs : List Nat} (h : HWo w b es S A cap mb n D gs) (r : RdS) (A1 A2 : Option Addr) (n1 n2 k1 k2 : Nat) (cs : List Value) (hl : Lists w 0 r (.slice A1 n1 k1) (.slice A2 n2 k2) cs) (hk : r.kept) (ab : Int) (hab : -1 ≤ ab ∧ ab < es.length)
    (I : Option Addr) (ci : Nat) (ids : List Nat) (hI : IntsAt w I (ids.map Int.ofNat)) (hids : ∀ i, i ∈ ids → i < es.length) (hlen : ids.length ≤ 1000000) (hci : ids.length ≤ ci) (hx : r.nm ∉ es.map fun e => e.r.nm) (hes : es.length < 300) :
    Calls Tryz.prog 33 #[.pointer (some ⟨b, 0, none⟩), .agg #[.string (bs r.nm), .string (bs r.sup), .slice A1 n1 k1, .int .i64 r.fl, .int .i64 r.ld, .slice A2 n2 k2], .int .i64 ab, .slice I ids.length ci] w fun e w' => e = .returned (.int .i64 es.length) ∧ ∃ S', HW w' b mb (es ++ [putOf es r ab ids]) S' ∧ Upd w w' (putF b mb A gs.length cap) ∧ (∀ k, k ∈ S' → k ∈ S ∨ k ∈ listF (.slice A1 n1 k1) (.slice A2 n2 k2) cs ∨ w.heap.size ≤ k) := by
  have H := hid h
  have Hgl := hid h.len
  have HP0 := hid (put_start w r ab A1 A2 n1 n2 k1 k2)
  have hbl := h.box.blk.lt
  have hnle := h.n
  have HKey := hid (show keyOf Tryz.prog 9 (.string (bs r.nm)) = some (.string r.nm) from by
    have h1 := keyOf_string_mk (P := Tryz.prog) Tryz.underlying9 (s := bs r.nm) (by rw [bs_size]; have := hk.fine.nm; unfold maxLen; omega)
    rw [bs_data] at h1
    exact h1)
  have HVal := hid (show plainElem (H := Unit) Tryz.prog 3 (.int .i64 gs.length) = some (.lit (.int .i64 es.length), []) from by
    rw [h.len]
    exact plainElem_int Tryz.underlying3 (by simp only [Lit.wf, Bool.and_eq_true, decide_eq_true_eq]; exact ⟨by show (-9223372036854775808 : Int) ≤ _; omega, by show _ ≤ (9223372036854775807 : Int); omega⟩))
  have HL := hid hl
  have HKp := hid hk
  have HI := hid hI
  have HX := hid hx
  clear h hl hk hI hx
  go_enter Tryz.func33, Tryz.ntmps33
  go_upto_if 21 with (fail)
  revert HP0
  generalize (((w.alloc (.cells #[.string (bs r.nm), .string (bs r.sup), .slice A1 n1 k1, .int .i64 r.fl, .int .i64 r.ld, .slice A2 n2 k2] 46)).alloc (.cells #[.string (bs r.nm), .string (bs r.sup), .slice A1 n1 k1, .int .i64 r.fl, .int .i64 r.ld, .slice A2 n2 k2, .int .i64 ab, .int .i64 0, .slice none 0 0] 97)).alloc (.cells #[.pointer (some ⟨w.heap.size + 1, 0, none⟩)] 94)) = W
  intro HP0
  go_cut [22] (fun _ wx => Hid (PutI w ⟨r, ab, if 0 ≤ ab then dpAt es ab.toNat + 1 else 0, if 0 ≤ ab then clAt es ab.toNat else []⟩ (.slice A1 n1 k1) (.slice A2 n2 k2) wx))
  case first =>
    by_cases hz : 0 ≤ ab
    · obtain ⟨k, rfl⟩ : ∃ k : Nat, ab = k := ⟨ab.toNat, by omega⟩
      have hkl : k < es.length := by omega
      obtain ⟨e, he⟩ : ∃ e, es[k] = e := ⟨_, rfl⟩
      have HZ := hid hz
      have HE := hid he
      have hEm : e ∈ es := by rw [← he]; exact List.getElem_mem hkl
      have HD := hid (show dpAt es (k : Int).toNat = e.dp by unfold dpAt; rw [Int.toNat_natCast, List.getElem?_eq_getElem hkl, he]; rfl)
      have HCl := hid (show clAt es (k : Int).toNat = e.cl by unfold clAt; rw [Int.toNat_natCast, List.getElem?_eq_getElem hkl, he]; rfl)
      clear he
      obtain ⟨g, ge, vi, vm, cs2, A', cap', rfl, hg, x0, hbW, hkg, x1, hge, hEn, hgeW, x7, x8⟩ := (H.out.upd HP0.out.upd).read hkl HE.out
      have HEn := hid hEn
      obtain ⟨Ae, ce, hBe, hOe⟩ := HP0.out.ex
      have y7 := (hBe.cell 7).trans (show _ = some (.int .i64 0) from rfl)
      have f7 := hBe.frozen 7
      have hBl := hBe.lt
      have z0 := (HP0.out.cv.cell 0).trans (show _ = some (.pointer (some ⟨w.heap.size + 1, 0, none⟩)) from rfl)
      have hzl := HP0.out.cv.lt
      have hgs := H.out.lt ge hEn.hg
      have hdp := H.out.good.dp e hEm
      have hel := H.out.good.len
      have hwr : wrap64 (e.dp + 1) = e.dp + 1 := by unfold wrap64; omega
      have HP1 := hid (HP0.out.depth (e.dp + 1)).drew
      clear hBe hOe hEn hge hdp
      have hzd : decide (0 ≤ (k : Int)) = true := decide_eq_true hz
      go_wp2
      go_region
      clear z0 hzl y7 f7 hBl x0 x1 x7 x8 hg hbW hgeW HEn
      revert HP1
      generalize (W.setCell ⟨w.heap.size + 1, 7, none⟩ (.int .i64 (e.dp + 1))).drew = W1
      intro HP1
      obtain ⟨g', ge', vi, vm, cs2, A', cap', hgg, hg, x0, hbW, hkg, x1, hge, hEn, hgeW, x7, x8⟩ := (H.out.upd HP1.out.upd).read hkl HE.out
      cases hgg
      have hcl : e.cl.length ≤ 300 := by
        have h1 := (Nums.len (n := es.length) ⟨H.out.good.nd e hEm, H.out.good.cl e hEm⟩)
        omega
      have Hcl := fun W2 (u : Upd W1 W2 []) => hid (clone_intsR (u.own hEn.cl (by simp)) (by omega))
      have hgs := H.out.lt ge' hEn.hg
      obtain ⟨Ae, ce, hBe, hOe⟩ := HP1.out.ex
      have y8 := (hBe.cell 8).trans (show _ = some (.slice Ae 0 ce) from rfl)
      have f8 := hBe.frozen 8
      have hBl := hBe.lt
      have z0 := (HP1.out.cv.cell 0).trans (show _ = some (.pointer (some ⟨w.heap.size + 1, 0, none⟩)) from rfl)
      have hzl := HP1.out.cv.lt
      have HK := hid (fun W2 w' (u : Upd W1 W2 []) (u2 : Upd W2 w' []) => (show w'.cell? ⟨w.heap.size + 1, 8, none⟩ = some (.slice Ae 0 ce) ∧ w'.frozen? ⟨w.heap.size + 1, 8, none⟩ = false ∧ w'.cell? ⟨w.heap.size + 2, 0, none⟩ = some (.pointer (some ⟨w.heap.size + 1, 0, none⟩)) ∧ w.heap.size + 2 < w'.heap.size from by
        have u3 := u.trans u2
        have b1 := u3.blk hBe (by simp)
        have b2 := u3.blk HP1.out.cv (by simp)
        exact ⟨(b1.cell 8).trans rfl, b1.frozen 8, (b2.cell 0).trans rfl, b2.lt⟩))
      have HS := hid (fun w' (u : Upd W1 w' []) A2 c2 (ho : w'.ownsRow W1.heap.size 3 1 (.slice A2 e.cl.length c2) e.cl.length (e.cl.map numV)) => HP1.out.close u e.cl ho)
      clear hBe hOe hEn hge
      go_wp2
      go_region_law (go_simp; go_wp2_with (go_at_call 69; refine (Hcl _ (by first | exact (Upd.refl _ _).drew | exact (Upd.refl _ _).drewN _ | exact Upd.refl _ _)).out.mono ?_; rintro e w' ⟨A', c', rfl, ho', hU'⟩; obtain ⟨p1, p2, p3, p4⟩ := HK.out _ _ (by first | exact (Upd.refl _ _).drew | exact (Upd.refl _ _).drewN _ | exact Upd.refl _ _) hU'))
      all_goals
        have HPt := hid (HS.out w' ((Upd.refl W1 []).drew.trans hU') _ _ ho')
        go_wp2
        go_meet
        rw [if_pos (by have := HZ.out; omega), if_pos (by have := HZ.out; omega), HD.out, HCl.out]
        exact HPt
    · have hzd : decide (0 ≤ ab) = false := decide_eq_false hz
      have HZ := hid hz
      go_wp2
      go_meet
      rw [if_neg (by have := HZ.out; omega), if_neg (by have := HZ.out; omega)]
      exact HP0
  case rest =>
    have HPt := hcut
    have HN := hid (show Nums es.length (if 0 ≤ ab then clAt es ab.toNat else []) by
      split
      · exact H.out.good.clAt _
      · exact ⟨by simp, by simp⟩)
    generalize hCL : (if 0 ≤ ab then clAt es ab.toNat else []) = CL at *
    generalize hDP : (if 0 ≤ ab then dpAt es ab.toNat + 1 else 0) = DP at *
    have HCL := hid hCL
    have HDP := hid hDP
    clear hCL hDP
    go_wp2
    go_loopw [53] (fun t wr => ∃ q : Nat, t = .int .i64 q ∧ q ≤ ids.length ∧ Hid (PutI w ⟨r, ab, DP, (ids.take q).foldl (addIf es) CL⟩ (.slice A1 n1 k1) (.slice A2 n2 k2) wr)) (fun t _ => ids.length - (intOf t).toNat)
    case atStart => exact ⟨0, rfl, Nat.zero_le _, HPt⟩
    case round =>
      obtain ⟨q, rfl, hq, HPq⟩ := hrel
      clear HPt
      by_cases hlt : q < ids.length
      · obtain ⟨i, hi⟩ : ∃ i, ids[q] = i := ⟨_, rfl⟩
        have hil : i < es.length := by rw [← hi]; exact hids _ (List.getElem_mem hlt)
        obtain ⟨e2, he2⟩ : ∃ e2, es[i] = e2 := ⟨_, rfl⟩
        have he2m : e2 ∈ es := by rw [← he2]; exact List.getElem_mem hil
        obtain ⟨bk, off, rfl, hbk, hcI⟩ := (HI.out.upd HPq.out.upd) (by intro e0; have h9 := congrArg List.length e0; rw [List.length_map] at h9; simp only [List.length_nil] at h9; omega)
        have xI := hcI q (by simpa using hlt)
        rw [List.getElem_map, hi] at xI
        have xI' : wr.cell? ⟨bk, off + q, none⟩ = some (.int .i64 i) := xI
        clear xI hcI
        have hstep : Hid ((ids.take (q + 1)).foldl (addIf es) CL = addI (e2.cl.foldl addI ((ids.take q).foldl (addIf es) CL)) i) := hid (by
          rw [List.take_succ_eq_append_getElem hlt, List.foldl_append, hi]
          show addI ((clAt es i).foldl addI _) i = _
          rw [show clAt es i = e2.cl by unfold clAt; rw [List.getElem?_eq_getElem hil, he2]; rfl])
        have hN : Nums es.length ((ids.take q).foldl (addIf es) CL) := Nums.ids H.out.good _ _ HN.out (fun j hj => hids j (List.mem_of_mem_take hj))
        obtain ⟨g2, ge2, vi2, vm2, cs3, A3, cap3, hgg, hg2, x0, hbW2, hkg2, x1, hge2, hEn2, hgeW2, x7, x8⟩ := H.out.read hil he2
        have hcq := HPq.out.upd.cells
        have x0q := (hcq.1 _ _ hbl).trans x0
        have x1q := (hcq.1 _ _ hg2).trans x1
        have x8q := (hcq.1 _ _ hgeW2).trans x8
        clear x0 x1 x8
        have hcl2 : Nums es.length e2.cl := ⟨H.out.good.nd e2 he2m, H.out.good.cl e2 he2m⟩
        have hcl2l := hcl2.len
        have HC2 := hid hEn2.cl
        subst hgg
        generalize (ids.take q).foldl (addIf es) CL = acc at *
        have HNa := hid hN
        have HNc := hid hcl2
        clear hi he2 he2m hge2 hEn2 hN hcl2 x7 hcq
        go_wp2
        go_loopw [68] (fun t wr2 => ∃ j : Nat, t = .int .i64 j ∧ j ≤ e2.cl.length ∧ Hid (PutI w ⟨r, ab, DP, (e2.cl.take j).foldl addI acc⟩ (.slice A1 n1 k1) (.slice A2 n2 k2) wr2)) (fun t _ => e2.cl.length - (intOf t).toNat)
        case atStart => exact ⟨0, rfl, Nat.zero_le _, HPq⟩
        case round =>
          obtain ⟨j, rfl, hj, HPj⟩ := hrel
          clear HPq x0q x1q x8q
          by_cases hltj : j < e2.cl.length
          · obtain ⟨x, hx⟩ : ∃ x, e2.cl[j] = x := ⟨_, rfl⟩
            obtain ⟨g5, c5, hv5, -, -, hg5⟩ := own_form HC2.out (by omega)
            have hC2 := HC2.out
            cases hv5
            have y5 := hC2.cellAt j (by omega)
            rw [List.getElem?_map, List.getElem?_eq_getElem hltj, hx] at y5
            have y5q : wr.cell? ⟨g5, j, none⟩ = some (.int .i64 x) := (HPj.out.upd.cells.1 _ _ hg5).trans y5
            have hg5q := Nat.lt_of_lt_of_le hg5 HPj.out.upd.size
            have hst2 := hid (show (e2.cl.take (j + 1)).foldl addI acc = addI ((e2.cl.take j).foldl addI acc) x by
              rw [List.take_succ_eq_append_getElem hltj, List.foldl_append, hx]
              rfl)
            have hNj : Nums es.length ((e2.cl.take j).foldl addI acc) := Nums.adds _ _ HNa.out (fun y hy => HNc.out.2 y (List.mem_of_mem_take hy))
            have hNjl := hNj.len
            have Hadd := hid (HPj.out.add x (by omega))
            generalize (e2.cl.take j).foldl addI acc = acc2 at *
            clear hC2 y5 hx hNj HPj
            go_wp2_with fail
            refine Hadd.out.mono ?_
            rintro e w4 ⟨rfl, hP4, hz4⟩
            have HP4 := hid hP4
            clear hP4 Hadd
            go_wp2
            go_roundw
            case rel => exact ⟨j + 1, (by go_num), by omega, by rw [hst2.out]; exact HP4⟩
            case measure => simp [intOf]; omega
          · obtain rfl : j = e2.cl.length := by omega
            rw [List.take_length] at HPj
            have hNj : Nums es.length (e2.cl.foldl addI acc) := Nums.adds _ _ HNa.out HNc.out.2
            have hNjl := hNj.len
            have Hadd := hid (HPj.out.add i (by omega))
            generalize e2.cl.foldl addI acc = acc2 at *
            clear hNj HPj
            go_wp2_with fail
            refine Hadd.out.mono ?_
            rintro e w4 ⟨rfl, hP4, hz4⟩
            have HP4 := hid hP4
            clear hP4 Hadd
            go_wp2
            go_roundw
            case rel => exact ⟨q + 1, (by go_num), by omega, by rw [hstep.out]; exact HP4⟩
            case measure => simp [intOf]; omega
      · obtain rfl : q = ids.length := by omega
        rw [List.take_length] at HPq
        have hCL := HCL.out
        have hDP := HDP.out
        subst hCL
        subst hDP
        have HPe : Hid (PutI w (putOf es r ab ids) (.slice A1 n1 k1) (.slice A2 n2 k2) wr) := hid HPq.out
        clear HPq HCL HDP HN
        have hBw := (H.out.upd HPe.out.upd).box.blk
        have x0 := (hBw.cell 0).trans (show _ = some (.slice A gs.length cap) from rfl)
        have f0 := hBw.frozen 0
        have hbl2 := hBw.lt
        have hBcv := HPe.out.cv
        have z0 := (hBcv.cell 0).trans (show _ = some (.pointer (some ⟨w.heap.size + 1, 0, none⟩)) from rfl)
        have hzl := hBcv.lt
        have hgl300 : gs.length ≤ 300 := by rw [H.out.len]; omega
        have HGL := hid H.out.len
        have HOw := hid (fun (W : World) (hh : W.heap = (wr.alloc (.cells #[.pointer (some ⟨w.heap.size + 1, 0, none⟩)] 94)).heap) => own_heap (((H.out.upd HPe.out.upd).upd ((Upd.refl wr []).alloc (.cells #[.pointer (some ⟨w.heap.size + 1, 0, none⟩)] 94))).box.all) hh)
        have HBs := hid (fun (W : World) (hh : W.heap = (wr.alloc (.cells #[.pointer (some ⟨w.heap.size + 1, 0, none⟩)] 94)).heap) => show Blk W wr.heap.size 94 #[.pointer (some ⟨w.heap.size + 1, 0, none⟩)] from by
          have hB := Blk.new wr 94 #[.pointer (some ⟨w.heap.size + 1, 0, none⟩)]
          unfold Blk at hB ⊢
          rw [hh]
          exact hB)
        have HK := hid (fun (W w' : World) (g' cap' : Nat) hg hh h1 h2 h3 ho hat => put_mid (W := W) (w' := w') (g' := g') (cap' := cap') H.out HPe.out HL.out HKp.out HX.out hes hab hids hg hh h1 h2 h3 ho hat)
        obtain ⟨i0, hi0, hz0, hz1, hz2⟩ := info_parts infoPE
        clear hBw hBcv HL HKp HX HI
        go_wp2
        go_region_law (refine step_append_one _ rfl (.tmp 89) (.tmp 91) 75 rfl 94 i0 _ 1 8 Tryz.underlying75 hi0 hz0 hz1 hz2 rfl (by decide) (by decide) (.slice A gs.length cap) gs.length (gs.map ptrV) rfl (by exact HOw.out _ rfl) (by omega) wr.heap.size 94 #[.pointer (some ⟨w.heap.size + 1, 0, none⟩)] rfl (by exact HBs.out _ rfl) rfl rfl ?_; intro g' cap' w' hown' hg' hat'; obtain ⟨⟨⟨pv, p0⟩, p1, p2⟩, HF⟩ := HK.out _ _ _ _ hg' rfl rfl rfl rfl hown' hat'; clear hown' hg' hat')
        all_goals
          go_upto_region 18 with (fail)
          clear p0 p1 p2 x0 f0 z0 hzl HK HOw HBs hbl2
          have hF := HF.out
          revert HF
          generalize w'.setCell ⟨b, 0, none⟩ (.slice (some ⟨g', 0, none⟩) (gs.length + 1) cap') = w5 at hF
          intro HF
          obtain ⟨hB5, hC5, hM5, hE5⟩ := hF
          have x1 := (hB5.cell 1).trans (show _ = some (.map (some mb)) from rfl)
          have hbl5 := hB5.lt
          have c0 := (hC5.cell 0).trans (show _ = some (.string (bs r.nm)) from rfl)
          have hcl5 := hC5.lt
          have HM5 := hid hM5
          have HE5 := hid hE5
          clear hB5 hC5 hM5 hE5 HF
          obtain ⟨w7, hrun, hm7, hg7⟩ := World.ownsMap.update (w := w5.drew) (t := 74) (e := 3) HM5.out keyStr Tryz.underlying74 (by unfold maxLen; omega) HKey.out HVal.out
          have HF7 := hid (HE5.out w7 hm7 ⟨hg7.os, hg7.tape, hg7.output, hg7.size, hg7.block⟩)
          clear hm7 hg7 HM5 HE5
          go_region
          all_goals
            go_wp2
            go_ret
            exact ⟨by rw [HGL.out]; rfl, HF7.out⟩
end Go.Proofs.YtfpdeiefkimaaaaGreatDoor
