/-
  A class is copied (layer 6): what is known while the methods' code is cloned one by one; plain laws.
-/
import Derived.Test.YtfpdeiefkimaaaaGreatDoorR1
import Derived.Test.YtfpdeiefkimaaaaGreatDoorR2
import Derived.Test.YtfpdeiefkimaaaaGreatDoorKN
import Derived.Deep.RegionLaw
set_option linter.unusedSimpArgs false
set_option linter.unusedVariables false
namespace Go.Proofs.YtfpdeiefkimaaaaGreatDoor
open Go.RowKit

theorem set_mid {α : Type} : ∀ (a b : List α) (k : Nat) (v : α), a.length = k → k < a.length + b.length → (a ++ b).set k v = a ++ [v] ++ b.drop 1
  | [], x :: b, 0, v, _, _ => rfl
  | [], [], 0, v, _, h => absurd h (by simp)
  | y :: a, b, k + 1, v, h, h2 => by
    show y :: (a ++ b).set k v = _
    rw [set_mid a b k v (by simpa using h) (by simp at h2; omega)]
    rfl
  | y :: a, b, 0, v, h, _ => absurd h (by simp)
  | [], b, k + 1, v, h, _ => absurd h (by simp)
theorem methRows_slot {ms : List MethS} {cs : List Value} (i : Nat) (h : i < ms.length) (h' : i < cs.length) (c' : Value) : (methRows ms cs).set (i * 6 + 5) c' = methRows ms (cs.set i c') := by
  have := methRows_code (ms := ms) (cs := cs) i h h' id c' (fun _ _ => rfl)
  rwa [List.modify_id] at this
theorem ne_sC : 9 ≠ 46 := by decide
theorem ne_mC : 86 ≠ 46 := by decide
theorem ne_iC : 90 ≠ 46 := by decide
/-- The code of the first k methods is cloned. -/
structure CpI (w : World) (c : ClassL) (Am : Option Addr) (capM : Nat) (vi : Value) (k : Nat) (cs : List Value) (wr : World) : Prop where
  blk : Blk wr w.heap.size 46 #[.string (bs c.nm), .string (bs c.sup), vi, .int .i64 c.fl, .int .i64 c.ld, .slice Am c.ms.length capM]
  len : cs.length = k
  oi : wr.ownsRow 0 9 1 vi c.ifs.length (c.ifs.map strV)
  om : wr.ownsRow 0 86 6 (.slice Am c.ms.length capM) c.ms.length (methRows (c.ms.map methSOf) (cs ++ (c.ms.map slOf).drop k))
  oc : ∀ i (h : i < cs.length), wr.ownsRow 0 90 7 cs[i] (codeOf (c.ms.map methSOf) i).length (instV (codeOf (c.ms.map methSOf) i))
  bi : ∀ k, vi.ownBlock = some k → w.heap.size ≤ k
  bm : ∀ k, (Value.slice Am c.ms.length capM).ownBlock = some k → w.heap.size ≤ k
  res : Blk wr (w.heap.size + 1) 46 #[.string ⟨#[]⟩, .string ⟨#[]⟩, .slice none 0 0, .int .i64 0, .int .i64 0, .slice none 0 0]
  bc : ∀ i (h : i < cs.length) k, cs[i].ownBlock = some k → w.heap.size ≤ k
  dis : ∀ i j (hi : i < cs.length) (hj : j < cs.length), i ≠ j → ∀ k, cs[i].ownBlock = some k → cs[j].ownBlock ≠ some k
  upd : Upd w wr []
theorem codeOf_meth {ms : List MethL} {k : Nat} {m : MethL} (h : ms[k]? = some m) : codeOf (ms.map methSOf) k = m.code := by
  unfold codeOf
  rw [List.getElem?_map, h]
  rfl
theorem CpI.cells {w : World} {c : ClassL} {gm capM : Nat} {vi : Value} {k : Nat} {cs : List Value} {wr : World} (h : CpI w c (some ⟨gm, 0, none⟩) capM vi k cs wr) (hk : k < c.ms.length) {m : MethL} (hm : c.ms[k]? = some m) : wr.cell? ⟨gm, k * 6 + 5, none⟩ = some (slOf m) ∧ wr.frozen? ⟨gm, k * 6 + 5, none⟩ = false ∧ gm < wr.heap.size := by
  have hl := h.len
  have hcl : k < (cs ++ (c.ms.map slOf).drop k).length := by simp; omega
  refine ⟨?_, h.om.frozenAt _, own_lt_some h.om⟩
  rw [h.om.cellAt (k * 6 + 5) (by omega), methRows_get k (by simpa using hk) hcl 5 (by omega)]
  have : (cs ++ (c.ms.map slOf).drop k)[k] = slOf m := by
    rw [List.getElem_append_right (by omega)]
    simp only [hl, Nat.sub_self]
    rw [List.getElem_drop, List.getElem_map]
    rw [List.getElem?_eq_getElem (by simpa using hk)] at hm
    simp only [Nat.add_zero]
    rw [Option.some.inj hm]
  rw [this]
  rfl
theorem CpI.step {w : World} {c : ClassL} {gm capM : Nat} {vi : Value} {k : Nat} {cs : List Value} {wr w2 : World} (h : CpI w c (some ⟨gm, 0, none⟩) capM vi k cs wr) (hk : k < c.ms.length) {m : MethL} (hm : c.ms[k]? = some m) (u : Upd wr w2 []) {v : Value} (ho : w2.ownsRow wr.heap.size 90 7 v m.code.length (instV m.code)) :
    CpI w c (some ⟨gm, 0, none⟩) capM vi (k + 1) (cs ++ [v]) (w2.setCell ⟨gm, k * 6 + 5, none⟩ v) := by
  have hl := h.len
  have hB := u.blk h.blk (by simp)
  have hM := u.own h.om (by simp)
  have hne1 : ∀ {e : TypeId} {base size n : Nat} {x : Value} {xs : List Value}, w2.ownsRow base e size x n xs → e ≠ 86 → x.ownBlock ≠ some gm := fun ho hne hx => own_own_ne ho hM hne hx rfl
  have hgm : gm ≠ w.heap.size := by
    rintro rfl
    exact own_blk_ne hM hB (by decide) rfl
  have hgm2 : gm ≠ w.heap.size + 1 := by
    rintro rfl
    exact own_blk_ne hM (u.blk h.res (by simp)) (by decide) rfl
  have hsz : w.heap.size ≤ wr.heap.size := h.upd.size
  refine ⟨hB.far (p := ⟨gm, k * 6 + 5, none⟩) (fun e => hgm e.symm) v, by simp [hl], ownsRow_setCell_other (u.own h.oi (by simp)) (hne1 (u.own h.oi (by simp)) (by decide)) _, ?_, fun i hi => ?_, h.bi, h.bm, (u.blk h.res (by simp)).far (p := ⟨gm, k * 6 + 5, none⟩) (fun e => hgm2 e.symm) v, fun i hi q hq => ?_, fun i j hi hj hij q hq => ?_, ?_⟩
  · have := (hM.stored (k * 6 + 5) v).1
    rw [methRows_slot k (by simpa using hk) (by simp; omega) v, set_mid cs _ k v hl (by simp; omega), List.drop_drop] at this
    exact this
  · by_cases hik : i < cs.length
    · rw [List.getElem_append_left hik]
      have h2 := u.own (h.oc i hik) (by simp)
      exact ownsRow_setCell_other h2 (hne1 h2 (by decide)) _
    · have : i = k := by simp at hi; omega
      subst this
      rw [List.getElem_append_right (by omega)]
      simp only [hl, Nat.sub_self, List.getElem_cons_zero]
      rw [codeOf_meth hm]
      have h2 := own_weak ho
      exact ownsRow_setCell_other h2 (hne1 h2 (by decide)) _
  · by_cases hik : i < cs.length
    · rw [List.getElem_append_left hik] at hq
      exact h.bc i hik q hq
    · have : i = k := by simp at hi; omega
      subst this
      rw [List.getElem_append_right (by omega)] at hq
      simp only [hl, Nat.sub_self, List.getElem_cons_zero] at hq
      have := own_base ho q hq
      omega
  · have old : ∀ i (h' : i < cs.length) q, cs[i].ownBlock = some q → q < wr.heap.size := fun i h' q hq => ((h.oc i h').lt q hq).2
    have new : ∀ q, v.ownBlock = some q → wr.heap.size ≤ q := own_base ho
    by_cases hi1 : i < cs.length
    · rw [List.getElem_append_left hi1] at hq
      by_cases hj1 : j < cs.length
      · rw [List.getElem_append_left hj1]
        exact h.dis i j hi1 hj1 hij q hq
      · rw [List.getElem_append_right (by omega), List.getElem_singleton]
        intro h2
        have := new q h2
        have := old i hi1 q hq
        omega
    · have : i = k := by simp at hi; omega
      rw [List.getElem_append_right (by omega), List.getElem_singleton] at hq
      have hj1 : j < cs.length := by simp at hj; omega
      rw [List.getElem_append_left hj1]
      intro h2
      have := new q hq
      have := old j hj1 q h2
      omega
  · exact (h.upd.trans u).setCell (.inr (h.bm gm rfl)) v
theorem CpI.lists {w : World} {c : ClassL} {Am : Option Addr} {capM : Nat} {vi : Value} {cs : List Value} {wr : World} (h : CpI w c Am capM vi c.ms.length cs wr) : Lists wr w.heap.size (rdOf c) vi (.slice Am c.ms.length capM) cs := by
  refine ⟨by rw [h.len]; simp [rdOf], h.oi, ?_, h.oc, h.bi, h.bm, h.bc, h.dis⟩
  have := h.om
  rw [List.drop_eq_nil_of_le (by simp), List.append_nil] at this
  rw [show (rdOf c).ms.length = c.ms.length by simp [rdOf]]
  exact this
theorem CpI.done {w : World} {c : ClassL} {Am : Option Addr} {capM : Nat} {vi : Value} {cs : List Value} {wr we : World} (h : CpI w c Am capM vi c.ms.length cs wr) (u : Upd wr we [w.heap.size + 1]) : Lists we w.heap.size (rdOf c) vi (.slice Am c.ms.length capM) cs ∧ Upd w we [] :=
  ⟨h.lists.keep u (fun b hb hm => by rw [List.mem_singleton.1 hm] at hb; exact h.lists.blk_ne h.res ne_sC ne_mC ne_iC hb), ⟨u.os.trans h.upd.os, u.tape.trans h.upd.tape, u.output.trans h.upd.output, Nat.le_trans h.upd.size u.size, fun b hb _ => (u.block b (Nat.lt_of_lt_of_le hb h.upd.size) (by simp; omega)).trans (h.upd.block b hb (by simp))⟩⟩
def rowsOf (l : List MethL) : List Value := methRows (l.map methSOf) (l.map slOf)
theorem rowsOf_length (l : List MethL) : (rowsOf l).length = l.length * 6 := by
  unfold rowsOf
  rw [methRows_length (by simp)]
  simp
theorem rowsOf_get (l : List MethL) (i : Nat) (h : i < l.length) (j : Nat) (hj : j < 6) : (rowsOf l)[i * 6 + j]? = l[i].cells[j]? := by
  unfold rowsOf
  rw [methRows_get i (by simpa using h) (by simpa using h) j hj, List.getElem_map, List.getElem_map, ← Array.getElem?_toList]
  rfl
theorem rowsOf_one (l : List MethL) : ∀ u ∈ rowsOf l, u.oneCell' = true := by
  intro u hu
  obtain ⟨j, hj, rfl⟩ := List.getElem_of_mem hu
  rw [rowsOf_length] at hj
  have hi : j / 6 < l.length := by omega
  have h2 := rowsOf_get l (j / 6) hi (j % 6) (by omega)
  rw [show j / 6 * 6 + j % 6 = j by omega, List.getElem?_eq_getElem (by rw [rowsOf_length]; omega)] at h2
  have h3 : (rowsOf l)[j]'(by rw [rowsOf_length]; omega) ∈ l[j / 6].cells.toList := by
    rw [← Array.getElem?_toList] at h2
    exact List.mem_of_getElem? h2.symm
  generalize (rowsOf l)[j]'(by rw [rowsOf_length]; omega) = u at h3 ⊢
  simp only [MethL.cells, List.mem_cons, List.not_mem_nil, or_false] at h3
  rcases h3 with rfl | rfl | rfl | rfl | rfl | rfl <;> rfl
theorem MethsAt.src {w : World} {A : Option Addr} {l : List MethL} (h : MethsAt w A l) : rowsOf l ≠ [] → ∃ ad, A = some ad ∧ ∀ j u, (rowsOf l)[j]? = some u → w.cell? (ad.add j) = some u := by
  intro hne
  obtain ⟨bk, off, e, -, hc⟩ := h (fun e => hne (by rw [e]; rfl))
  refine ⟨_, e, fun j u hj => ?_⟩
  rw [Addr.add_mid]
  have hjl : j < l.length * 6 := by have := (List.getElem?_eq_some_iff.1 hj).1; rwa [rowsOf_length] at this
  have hi : j / 6 < l.length := by omega
  have hr : j % 6 < 6 := by omega
  have e2 := rowsOf_get l (j / 6) hi (j % 6) hr
  rw [show j / 6 * 6 + j % 6 = j by omega] at e2
  rw [e2] at hj
  have := hc (j / 6) hi (j % 6) hr
  rw [show off + j / 6 * 6 + j % 6 = off + j by omega] at this
  rw [this]
  exact hj
end Go.Proofs.YtfpdeiefkimaaaaGreatDoor
/-
  copied: a class in memory of its own, walked. (Layer 6.)
-/
set_option linter.unusedSimpArgs false
set_option linter.unusedVariables false
namespace Go.Proofs.YtfpdeiefkimaaaaGreatDoor
open Go.RowKit

theorem clone_methsR (c : ClassL) (w : World) (hc : c.fit w) (h : c.ms.length ≤ 1000000) : Calls Tryz.prog 78 #[.slice c.AM c.ms.length c.cM] w fun e w' => ∃ A' c', e = .returned (.slice A' c.ms.length c') ∧ w'.ownsRow w.heap.size 86 6 (.slice A' c.ms.length c') c.ms.length (rowsOf c.ms) ∧ Upd w w' [] :=
  clone_meths c.AM c.ms.length c.cM (rowsOf c.ms) w (rowsOf_length _) hc.ms.src (rowsOf_one _) (fun e => by
    by_cases hm : c.ms = []
    · rw [hm]; rfl
    · obtain ⟨bk, off, he, -⟩ := hc.ms hm
      rw [e] at he
      cases he) (by omega)
theorem clone_strsR (c : ClassL) (w : World) (hc : c.fit w) (h : c.ifs.length ≤ 1000000) : Calls Tryz.prog 77 #[.slice c.AI c.ifs.length c.cI] w fun e w' => ∃ A' c', e = .returned (.slice A' c.ifs.length c') ∧ w'.ownsRow w.heap.size 9 1 (.slice A' c.ifs.length c') c.ifs.length (c.ifs.map strV) ∧ Upd w w' [] :=
  clone_strs c.AI c.ifs.length c.cI (c.ifs.map strV) w (by simp) hc.ifs.src (strs_one _) (fun e => by
    by_cases hm : c.ifs = []
    · rw [hm]; rfl
    · obtain ⟨bk, off, he, -⟩ := hc.ifs hm
      rw [e] at he
      cases he) (by omega)
theorem clone_instsR (m : MethL) (w : World) (hc : m.fit w) (h : m.code.length ≤ 1000000) : Calls Tryz.prog 79 #[.slice m.A m.code.length m.cap] w fun e w' => ∃ A' c', e = .returned (.slice A' m.code.length c') ∧ w'.ownsRow w.heap.size 90 7 (.slice A' m.code.length c') m.code.length (instV m.code) ∧ Upd w w' [] :=
  clone_insts m.A m.code.length m.cap (instV m.code) w (instV_length _) hc.at_.src (instV_one _) (fun e => by
    by_cases hm : m.code = []
    · rw [hm]; rfl
    · obtain ⟨bk, off, he, -⟩ := hc.at_ hm
      rw [e] at he
      cases he) (by omega)
set_option maxHeartbeats 8000000 in
set_option maxRecDepth 100000 in
theorem copied_any (c : ClassL) (w : World) (hc : c.fit w) (h1 : c.ifs.length ≤ 1000000) (h2 : c.ms.length ≤ 1000000) (h3 : ∀ m, m ∈ c.ms → m.code.length ≤ 1000000) :
    Calls Tryz.prog 37 #[c.v] w fun e w' => ∃ vi vm cs, e = .returned (.agg #[.string (bs c.nm), .string (bs c.sup), vi, .int .i64 c.fl, .int .i64 c.ld, vm]) ∧ Lists w' w.heap.size (rdOf c) vi vm cs ∧ Upd w w' [] := by
  have Hs := fun w (hc : c.fit w) => hid (clone_strsR c w hc h1)
  have Hm := fun w (hc : c.fit w) => hid (clone_methsR c w hc h2)
  have Hi := fun w (hc : c.fit w) (m : MethL) (hm : m ∈ c.ms) => hid (clone_instsR m w (hc.meths m hm) (h3 m hm))
  have HC := hid hc
  clear h1 h3 hc
  obtain ⟨nm, sup, AI, cI, ifs, fl, ld, AM, cM, ms⟩ := c
  unfold ClassL.v ClassL.cells
  simp only at h2 Hs Hm Hi ⊢
  have HB0 := hid ((Blk.new w 46 #[.string (bs nm), .string (bs sup), .slice AI ifs.length cI, .int .i64 fl, .int .i64 ld, .slice AM ms.length cM]).alloc (.cells #[.string ⟨#[]⟩, .string ⟨#[]⟩, .slice none 0 0, .int .i64 0, .int .i64 0, .slice none 0 0] 46))
  have HB1 := hid (Blk.new_at (w := w.alloc (.cells #[.string (bs nm), .string (bs sup), .slice AI ifs.length cI, .int .i64 fl, .int .i64 ld, .slice AM ms.length cM] 46)) (t := 46) (cs := #[.string ⟨#[]⟩, .string ⟨#[]⟩, .slice none 0 0, .int .i64 0, .int .i64 0, .slice none 0 0]) (g := w.heap.size + 1) (by simp))
  have HU := hid (((Upd.refl w []).alloc (.cells #[.string (bs nm), .string (bs sup), .slice AI ifs.length cI, .int .i64 fl, .int .i64 ld, .slice AM ms.length cM] 46)).alloc (.cells #[.string ⟨#[]⟩, .string ⟨#[]⟩, .slice none 0 0, .int .i64 0, .int .i64 0, .slice none 0 0] 46))
  go_enter Tryz.func37, Tryz.ntmps37
  go_wp2_with fail
  refine (Hs _ (HC.out.upd HU.out)).out.mono ?_
  rintro e w1 ⟨A1, c1, rfl, ho1, hU1⟩
  have hC0 := hU1.blk HB0.out (by simp)
  have hC1 := hU1.blk HB1.out (by simp)
  have HU1 := hid (HU.out.trans hU1)
  have hz0 : w.heap.size + 2 ≤ w1.heap.size := by have := hU1.size; simpa using this
  have HO1 := hid (own_weak ho1)
  have HA1 := hid (fun k (hk : (Value.slice A1 ifs.length c1).ownBlock = some k) => show w.heap.size ≤ k by have := own_base ho1 k hk; simp at this; omega)
  clear Hs HB0 HB1 HU hU1 ho1
  have x2 := (hC0.cell 2).trans (show _ = some (.slice AI ifs.length cI) from rfl)
  have x5 := (hC0.cell 5).trans (show _ = some (.slice AM ms.length cM) from rfl)
  have f2 := hC0.frozen 2
  have hl0 := hC0.lt
  have HD0 := hid (show Blk (w1.setCell ⟨w.heap.size, 2, none⟩ (.slice A1 ifs.length c1)) w.heap.size 46 #[.string (bs nm), .string (bs sup), .slice A1 ifs.length c1, .int .i64 fl, .int .i64 ld, .slice AM ms.length cM] from hC0.set_ 2 _)
  have HD1 := hid (hC1.far (p := ⟨w.heap.size, 2, none⟩) (by show w.heap.size + 1 ≠ w.heap.size; omega) (.slice A1 ifs.length c1))
  have HU2 := hid (HU1.out.setCell (p := ⟨w.heap.size, 2, none⟩) (.inr (Nat.le_refl _)) (.slice A1 ifs.length c1))
  have HO2 := hid (ownsRow_setCell_other HO1.out (own_blk_ne HO1.out hC0 (by decide)) (u := .slice A1 ifs.length c1) (a := ⟨w.heap.size, 2, none⟩))
  clear hC0 hC1 HO1 HU1
  go_wp2_with fail
  refine (Hm _ (HC.out.upd HU2.out)).out.mono ?_
  rintro e w2 ⟨A2, c2, rfl, ho2, hU2⟩
  have hE0 := hU2.blk HD0.out (by simp)
  have hE1 := hU2.blk HD1.out (by simp)
  have HU3 := hid (HU2.out.trans hU2)
  have HO3 := hid (hU2.own HO2.out (by simp))
  have HP3 := hid (own_weak ho2)
  have HA2 := hid (fun k (hk : (Value.slice A2 ms.length c2).ownBlock = some k) => show w.heap.size ≤ k by have h1 := own_base ho2 k hk; have h2 := HU2.out.size; omega)
  have x5' := (hE0.cell 5).trans (show _ = some (.slice AM ms.length cM) from rfl)
  have f5' := hE0.frozen 5
  have hl0' := hE0.lt
  clear Hm HD0 HD1 HO2 hU2 ho2 x2 x5 f2
  have HF0 := hid (show Blk (w2.setCell ⟨w.heap.size, 5, none⟩ (.slice A2 ms.length c2)) w.heap.size 46 #[.string (bs nm), .string (bs sup), .slice A1 ifs.length c1, .int .i64 fl, .int .i64 ld, .slice A2 ms.length c2] from hE0.set_ 5 _)
  have HF1 := hid (hE1.far (p := ⟨w.heap.size, 5, none⟩) (by show w.heap.size + 1 ≠ w.heap.size; omega) (.slice A2 ms.length c2))
  have HU4 := hid (HU3.out.setCell (p := ⟨w.heap.size, 5, none⟩) (.inr (Nat.le_refl _)) (.slice A2 ms.length c2))
  have HO4 := hid (ownsRow_setCell_other HO3.out (own_blk_ne HO3.out hE0 (by decide)) (u := .slice A2 ms.length c2) (a := ⟨w.heap.size, 5, none⟩))
  have HP4 := hid (ownsRow_setCell_other HP3.out (own_blk_ne HP3.out hE0 (by decide)) (u := .slice A2 ms.length c2) (a := ⟨w.heap.size, 5, none⟩))
  have HI0 : Hid (CpI w ⟨nm, sup, AI, cI, ifs, fl, ld, AM, cM, ms⟩ A2 c2 (.slice A1 ifs.length c1) 0 [] (w2.setCell ⟨w.heap.size, 5, none⟩ (.slice A2 ms.length c2))) := hid ⟨HF0.out, rfl, HO4.out, HP4.out, fun i h => absurd h (by simp), HA1.out, HA2.out, HF1.out, fun i h => absurd h (by simp), fun i j h => absurd h (by simp), HU4.out⟩
  clear hE0 hE1 HU3 HO3 HP3 HF0 HF1 HU4 HO4 HP4 HA1 HA2
  go_wp2
  go_loopw [15] (fun t wr => ∃ k : Nat, ∃ cs : List Value, t = .int .i64 k ∧ k ≤ ms.length ∧ Hid (CpI w ⟨nm, sup, AI, cI, ifs, fl, ld, AM, cM, ms⟩ A2 c2 (.slice A1 ifs.length c1) k cs wr)) (fun t _ => ms.length - (intOf t).toNat)
  case atStart => exact ⟨0, [], rfl, Nat.zero_le _, HI0⟩
  case round =>
    obtain ⟨k, cs, rfl, hk, HI⟩ := hrel
    clear HI0
    by_cases hlt : k < ms.length
    · obtain ⟨m, hm⟩ : ∃ m, ms[k]? = some m := ⟨_, List.getElem?_eq_getElem hlt⟩
      obtain ⟨gm, capm, hv, -, -, -⟩ := own_form HI.out.om (by show 0 < ms.length; omega)
      cases hv
      obtain ⟨y5, fy5, hgl⟩ := HI.out.cells hlt hm
      unfold slOf at y5
      have c5 := (HI.out.blk.cell 5).trans (show _ = some (.slice (some ⟨gm, 0, none⟩) ms.length c2) from rfl)
      have hwl := HI.out.blk.lt
      have Hc := fun W (u : Upd wr W []) => Hi W (HC.out.upd (HI.out.upd.trans u)) m (List.mem_of_getElem? hm)
      have HK := hid (fun W w' (u : Upd wr W []) (u2 : Upd W w' []) => (show w'.cell? ⟨w.heap.size, 5, none⟩ = some (.slice (some ⟨gm, 0, none⟩) ms.length c2) ∧ w'.cell? ⟨gm, k * 6 + 5, none⟩ = some (.slice m.A m.code.length m.cap) ∧ w'.frozen? ⟨gm, k * 6 + 5, none⟩ = false ∧ gm < w'.heap.size ∧ w.heap.size < w'.heap.size from by
        have u3 := u.trans u2
        have hc := u3.cells
        exact ⟨(hc.1 _ _ hwl).trans c5, (hc.1 _ _ hgl).trans y5, (World.frozen?_of_block (u3.block gm hgl (by simp))).trans fy5, Nat.lt_of_lt_of_le hgl u3.size, Nat.lt_of_lt_of_le hwl u3.size⟩))
      have HS := hid (fun w' (u : Upd wr w' []) v (ho : w'.ownsRow wr.heap.size 90 7 v m.code.length (instV m.code)) => HI.out.step hlt hm u ho)
      clear Hi HI hm
      obtain ⟨mn, md, mf, ml, mt, MA, mc, code⟩ := m
      simp only at y5 Hc HK HS
      go_wp2
      go_region_law (go_simp; go_wp2_with (go_at_call 79; refine (Hc _ (by first | exact (Upd.refl _ _).drew | exact (Upd.refl _ _).drewN _ | exact Upd.refl _ _)).out.mono ?_; rintro e w' ⟨A', c', rfl, ho', hU'⟩; obtain ⟨p1, p2, p3, p4, p5⟩ := HK.out _ _ (by first | exact (Upd.refl _ _).drew | exact (Upd.refl _ _).drewN _ | exact Upd.refl _ _) hU'))
      all_goals
        have HN := hid (HS.out w' ((Upd.refl wr []).drew.trans hU') _ (by exact ho'))
        go_wp2
        go_roundw
        case rel => exact ⟨k + 1, _, (by go_num), by omega, HN⟩
        case measure => simp [intOf]; omega
    · obtain rfl : k = ms.length := by omega
      have y0 := (HI.out.blk.cell 0).trans (show _ = some (.string (bs nm)) from rfl)
      have y1 := (HI.out.blk.cell 1).trans (show _ = some (.string (bs sup)) from rfl)
      have y2 := (HI.out.blk.cell 2).trans (show _ = some (.slice A1 ifs.length c1) from rfl)
      have y3 := (HI.out.blk.cell 3).trans (show _ = some (.int .i64 fl) from rfl)
      have y4 := (HI.out.blk.cell 4).trans (show _ = some (.int .i64 ld) from rfl)
      have y5 := (HI.out.blk.cell 5).trans (show _ = some (.slice A2 ms.length c2) from rfl)
      have z0 := (HI.out.res.cell 0).trans (show _ = some (.string ⟨#[]⟩) from rfl)
      have z1 := (HI.out.res.cell 1).trans (show _ = some (.string ⟨#[]⟩) from rfl)
      have z2 := (HI.out.res.cell 2).trans (show _ = some (.slice none 0 0) from rfl)
      have z3 := (HI.out.res.cell 3).trans (show _ = some (.int .i64 0) from rfl)
      have z4 := (HI.out.res.cell 4).trans (show _ = some (.int .i64 0) from rfl)
      have z5 := (HI.out.res.cell 5).trans (show _ = some (.slice none 0 0) from rfl)
      have f0 := HI.out.res.frozen 0
      have f1 := HI.out.res.frozen 1
      have f2 := HI.out.res.frozen 2
      have f3 := HI.out.res.frozen 3
      have f4 := HI.out.res.frozen 4
      have f5 := HI.out.res.frozen 5
      have hl1 := HI.out.res.lt
      have hl2 := HI.out.blk.lt
      go_wp2
      rw [six_set0]
      have hBe : Blk (wr.setCells (w.heap.size + 1) 0 [.string (bs nm), .string (bs sup), .slice A1 ifs.length c1, .int .i64 fl, .int .i64 ld, .slice A2 ms.length c2]) (w.heap.size + 1) 46 #[.string (bs nm), .string (bs sup), .slice A1 ifs.length c1, .int .i64 fl, .int .i64 ld, .slice A2 ms.length c2] := six_blk6 _ _ _ _ _ _ HI.out.res
      have hUe : Upd wr (wr.setCells (w.heap.size + 1) 0 [.string (bs nm), .string (bs sup), .slice A1 ifs.length c1, .int .i64 fl, .int .i64 ld, .slice A2 ms.length c2]) [w.heap.size + 1] := (Upd.refl wr _).setCells' (.inl (by simp)) _ 0
      revert hBe hUe
      generalize wr.setCells (w.heap.size + 1) 0 [.string (bs nm), .string (bs sup), .slice A1 ifs.length c1, .int .i64 fl, .int .i64 ld, .slice A2 ms.length c2] = we
      intro hBe hUe
      obtain ⟨uf, huf⟩ := undClass
      have hD := HI.out.done hUe
      exact bodyPost_ret (v := .agg #[.string (bs nm), .string (bs sup), .slice A1 ifs.length c1, .int .i64 fl, .int .i64 ld, .slice A2 ms.length c2]) (results_cell_row Tryz.results37 _ _ (w.heap.size + 1) 46 #[.string (bs nm), .string (bs sup), .slice A1 ifs.length c1, .int .i64 fl, .int .i64 ld, .slice A2 ms.length c2] (0, 0) (.struct uf) rfl hBe huf rfl sizeClass) rfl ⟨_, _, _, rfl, hD.1, hD.2⟩
end Go.Proofs.YtfpdeiefkimaaaaGreatDoor
