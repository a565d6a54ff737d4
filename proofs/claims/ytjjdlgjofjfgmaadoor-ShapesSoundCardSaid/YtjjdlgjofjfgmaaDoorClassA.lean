/-
  Classes in memory; Find, walked.
-/
import Derived.Test.YtjjdlgjofjfgmaaDoorAllsA
set_option linter.unusedSimpArgs false
set_option linter.unusedVariables false
namespace Go.Proofs.YtjjdlgjofjfgmaaDoor
open Go.RowKit

/-- A method, with where its instructions lie. -/
structure MethL where
  nm : List UInt8
  ds : List UInt8
  fl : Int
  lo : Int
  st : Int
  A : Option Addr
  cap : Nat
  code : List InstL
def MethL.cells (m : MethL) : Array Value := #[.string (bs m.nm), .string (bs m.ds), .int .i64 m.fl, .int .i64 m.lo, .int .i64 m.st, .slice m.A m.code.length m.cap]
def MethL.v (m : MethL) : Value := .agg m.cells
def MethsAt (w : World) (A : Option Addr) (l : List MethL) : Prop :=
  l ≠ [] → ∃ bk off, A = some ⟨bk, off, none⟩ ∧ bk < w.heap.size ∧ ∀ i (h : i < l.length), ∀ j, j < 6 → w.cell? ⟨bk, off + i * 6 + j, none⟩ = l[i].cells[j]?
theorem MethsAt.upd {w w' : World} {A : Option Addr} {l : List MethL} (h : MethsAt w A l) (u : Upd w w' []) : MethsAt w' A l := by
  intro hl
  obtain ⟨bk, off, e, hb, hc⟩ := h hl
  refine ⟨bk, off, e, Nat.lt_of_lt_of_le hb u.size, fun i hi j hj => ?_⟩
  rw [u.cells.1 _ _ hb]
  exact hc i hi j hj
theorem MethsAt.six {w : World} {bk off : Nat} {l : List MethL} (hc : ∀ i (h : i < l.length), ∀ j, j < 6 → w.cell? ⟨bk, off + i * 6 + j, none⟩ = l[i].cells[j]?) {i : Nat} (h : i < l.length) {nm ds : List UInt8} {fl lo st : Int} {A : Option Addr} {cap : Nat} {code : List InstL} (e : l[i] = ⟨nm, ds, fl, lo, st, A, cap, code⟩) :
    w.cell? ⟨bk, off + i * 6, none⟩ = some (.string (bs nm)) ∧ w.cell? ⟨bk, off + i * 6 + 1, none⟩ = some (.string (bs ds)) ∧ w.cell? ⟨bk, off + i * 6 + 2, none⟩ = some (.int .i64 fl) ∧ w.cell? ⟨bk, off + i * 6 + 3, none⟩ = some (.int .i64 lo) ∧
      w.cell? ⟨bk, off + i * 6 + 4, none⟩ = some (.int .i64 st) ∧ w.cell? ⟨bk, off + i * 6 + 5, none⟩ = some (.slice A code.length cap) := by
  have q := fun j hj => hc i h j hj
  rw [e] at q
  exact ⟨q 0 (by omega), q 1 (by omega), q 2 (by omega), q 3 (by omega), q 4 (by omega), q 5 (by omega)⟩

/-- A class. -/
structure ClassL where
  nm : List UInt8
  sup : List UInt8
  AI : Option Addr
  cI : Nat
  ifs : List (List UInt8)
  fl : Int
  ld : Int
  AM : Option Addr
  cM : Nat
  ms : List MethL
def ClassL.cells (c : ClassL) : Array Value := #[.string (bs c.nm), .string (bs c.sup), .slice c.AI c.ifs.length c.cI, .int .i64 c.fl, .int .i64 c.ld, .slice c.AM c.ms.length c.cM]
def ClassL.v (c : ClassL) : Value := .agg c.cells

def hitB (nm ds : List UInt8) (m : MethL) : Bool := decide (m.nm = nm) && decide (m.ds = ds)
/-- The first method of this name and descriptor. -/
def findL (nm ds : List UInt8) : List MethL → Nat → Int
  | [], _ => -1
  | m :: t, k => if hitB nm ds m then k else findL nm ds t (k + 1)

set_option maxHeartbeats 2000000 in
theorem find1_any (m : MethL) (p q : Addr) (nm ds : List UInt8) (w : World) (h1 : w.cell? p = some (.string (bs nm))) (h2 : w.cell? q = some (.string (bs ds))) :
    Calls Tryd.prog 65 #[m.v, .pointer (some p), .pointer (some q)] w fun e w' => e = .returned (.bool (hitB nm ds m)) ∧ Upd w w' [] := by
  obtain ⟨mn, md, fl, lo, st, A, cap, code⟩ := m
  have hU : Upd w (w.alloc (.cells (MethL.mk mn md fl lo st A cap code).cells 52)) [] := (Upd.refl _ _).alloc _
  have hb1 := World.block_lt_of_cell? w p h1
  have hb2 := World.block_lt_of_cell? w q h2
  unfold hitB
  unfold MethL.v MethL.cells
  unfold MethL.cells at hU
  simp only at hU ⊢
  by_cases e1 : mn = nm
  · subst e1
    by_cases e2 : md = ds
    · subst e2
      have t1 := bs_beq mn mn
      have t2 := bs_beq md md
      go_enter Tryd.func65, Tryd.ntmps65
      go_wp2
      go_ret
      exact ⟨bool_ret (by simp), hU⟩
    · have t1 := bs_beq mn mn
      have t2 : ((bs md).toList == (bs ds).toList) = false := by rw [bs_beq, decide_eq_false e2]
      go_enter Tryd.func65, Tryd.ntmps65
      go_wp2
      go_ret
      exact ⟨bool_ret (by simp [e2]), hU⟩
  · have t1 : ((bs mn).toList == (bs nm).toList) = false := by rw [bs_beq, decide_eq_false e1]
    go_enter Tryd.func65, Tryd.ntmps65
    go_wp2
    go_ret
    exact ⟨bool_ret (by simp [e1]), hU⟩

theorem findL_at (nm ds : List UInt8) : ∀ (l : List MethL) (k i : Nat) (h : i < l.length), (∀ j (hj : j < l.length), j < i → hitB nm ds l[j] = false) → hitB nm ds l[i] = true → findL nm ds l k = ((k + i : Nat) : Int)
  | [], _, i, h, _, _ => absurd h (by simp)
  | m :: t, k, 0, _, _, hh => by
    unfold findL
    rw [if_pos (by simpa using hh)]
    rfl
  | m :: t, k, i + 1, h, hn, hh => by
    unfold findL
    have h0 := hn 0 (by simp) (by omega)
    simp only [List.getElem_cons_zero] at h0
    rw [if_neg (by rw [h0]; simp)]
    have := findL_at nm ds t (k + 1) i (by simpa using h) (fun j hj hji => by have := hn (j + 1) (Nat.succ_lt_succ hj) (by omega); rw [List.getElem_cons_succ] at this; exact this) (by simpa using hh)
    rw [this]
    congr 1
    omega
theorem findL_none (nm ds : List UInt8) : ∀ (l : List MethL) (k : Nat), (∀ j (hj : j < l.length), hitB nm ds l[j] = false) → findL nm ds l k = -1
  | [], _, _ => rfl
  | m :: t, k, hn => by
    unfold findL
    have h0 := hn 0 (by simp)
    simp only [List.getElem_cons_zero] at h0
    rw [if_neg (by rw [h0]; simp)]
    exact findL_none nm ds t (k + 1) (fun j hj => by have := hn (j + 1) (Nat.succ_lt_succ hj); rw [List.getElem_cons_succ] at this; exact this)

def indexMethRel (l : List MethL) (nm ds : List UInt8) (w : World) (t : Value) (wr : World) : Prop :=
  ∃ k : Nat, t = .int .i64 k ∧ k ≤ l.length ∧ Hid (∀ i (hi : i < l.length), i < k → hitB nm ds l[i] = false) ∧ Upd w wr []

set_option maxHeartbeats 4000000 in
set_option maxRecDepth 100000 in
theorem indexMeth_any (A : Option Addr) (cap : Nat) (l : List MethL) (p q : Addr) (nm ds : List UInt8) (w : World) (hA : MethsAt w A l) (hl : l.length ≤ 2000000000000) (h1 : w.cell? p = some (.string (bs nm))) (h2 : w.cell? q = some (.string (bs ds))) :
    Calls Tryd.prog 64 #[.slice A l.length cap, .func (.func 65) #[] #[.pointer (some p), .pointer (some q)]] w fun e w' => e = .returned (.int .i64 (findL nm ds l 0)) ∧ Upd w w' [] := by
  have HA := hid hA
  have hb1 := World.block_lt_of_cell? w p h1
  have hb2 := World.block_lt_of_cell? w q h2
  have H1 := hid h1
  have H2 := hid h2
  clear hA h1 h2
  go_enter Tryd.func64, Tryd.ntmps64
  go_wp2
  go_loopw [8] (fun t wr => indexMethRel l nm ds w t wr) (fun t _ => l.length - (intOf t).toNat)
  case atStart => exact ⟨0, rfl, Nat.zero_le _, hid (fun i _ h => absurd h (Nat.not_lt_zero _)), Upd.refl _ _⟩
  case round =>
    obtain ⟨k, rfl, hk, hgood, hU⟩ := hrel
    by_cases hlt : k < l.length
    · have hne : l ≠ [] := by rintro rfl; simp at hlt
      obtain ⟨bk, off, rfl, hbk, hc⟩ := HA.out hne
      obtain ⟨mn, md, fl, lo, st, A', cap', code, e⟩ : ∃ a b c d f g h i, l[k] = MethL.mk a b c d f g h i := ⟨_, _, _, _, _, _, _, _, rfl⟩
      have hbr : bk < wr.heap.size := Nat.lt_of_lt_of_le hbk hU.size
      obtain ⟨x0, x1, x2, x3, x4, x5⟩ := MethsAt.six (w := wr) (fun i hi j hj => by rw [hU.cells.1 _ _ hbk]; exact hc i hi j hj) hlt e
      have Hm := hid (find1_any ⟨mn, md, fl, lo, st, A', cap', code⟩ p q nm ds wr ((hU.below.cell hb1).trans H1.out) ((hU.below.cell hb2).trans H2.out))
      have hgd : hitB nm ds l[k] = false → Hid (∀ i (hi : i < l.length), i < k + 1 → hitB nm ds l[i] = false) := fun h => hid (fun i hi h2 => by
          rcases Nat.lt_or_ge i k with h3 | h3
          · exact hgood.out i hi h3
          · have : i = k := by omega
            subst this
            exact h)
      have hat := hid (fun h => findL_at nm ds l 0 k hlt (fun j hj hji => hgood.out j hj hji) h)
      rw [e] at hgd hat
      have Hgd := hid hgd
      clear hgd hgood hc e
      unfold MethL.v MethL.cells at Hm
      simp only at Hm
      cases hx : hitB nm ds (MethL.mk mn md fl lo st A' cap' code) with
      | true =>
        have Hat := hid (hat.out hx)
        rw [hx] at Hm
        clear hat hx Hgd
        go_wp2_with fail
        refine Hm.out.mono ?_
        rintro e w2 ⟨rfl, hU2⟩
        have hV := hU.trans hU2
        clear x0 x1 x2 x3 x4 x5
        go_wp2
        go_ret
        exact ⟨ret_int (by rw [Hat.out]; simp), hV⟩
      | false =>
        have Hg := Hgd.out hx
        rw [hx] at Hm
        clear hat hx Hgd
        go_wp2_with fail
        refine Hm.out.mono ?_
        rintro e w2 ⟨rfl, hU2⟩
        have hV := hU.trans hU2
        clear x0 x1 x2 x3 x4 x5
        go_wp2
        go_roundw
        case rel => exact ⟨k + 1, by go_num, by omega, Hg, hV⟩
        case measure => simp [intOf]; omega
    · obtain rfl : k = l.length := by omega
      have Hn := hid (findL_none nm ds l 0 (fun j hj => hgood.out j hj hj))
      clear hgood
      go_wp2
      go_ret
      exact ⟨ret_int (by rw [Hn.out]), hU⟩

set_option maxHeartbeats 4000000 in
set_option maxRecDepth 100000 in
theorem find_any (c : ClassL) (nm ds : List UInt8) (w : World) (hA : MethsAt w c.AM c.ms) (hl : c.ms.length ≤ 2000000000000) :
    Calls Tryd.prog 34 #[c.v, .string (bs nm), .string (bs ds)] w fun e w' => e = .returned (.int .i64 (findL nm ds c.ms 0)) ∧ Upd w w' [] := by
  obtain ⟨cn, cs, AI, cI, ifs, fl, ld, A, cap, l⟩ := c
  unfold ClassL.v ClassL.cells
  simp only at hA hl ⊢
  go_enter Tryd.func34, Tryd.ntmps34
  have hU : Upd w (((w.alloc (.cells #[.string (bs cn), .string (bs cs), .slice AI ifs.length cI, .int .i64 fl, .int .i64 ld, .slice A l.length cap] 47)).alloc (.cells #[.string (bs nm)] 9)).alloc (.cells #[.string (bs ds)] 9)) [] := (((Upd.refl _ _).alloc _).alloc _).alloc _
  have c1 : (((w.alloc (.cells #[.string (bs cn), .string (bs cs), .slice AI ifs.length cI, .int .i64 fl, .int .i64 ld, .slice A l.length cap] 47)).alloc (.cells #[.string (bs nm)] 9)).alloc (.cells #[.string (bs ds)] 9)).cell? ⟨w.heap.size + 1, 0, none⟩ = some (.string (bs nm)) := by
    have := ((Blk.new_at (w := w.alloc (.cells #[.string (bs cn), .string (bs cs), .slice AI ifs.length cI, .int .i64 fl, .int .i64 ld, .slice A l.length cap] 47)) (t := 9) (cs := #[.string (bs nm)]) (g := w.heap.size + 1) (by simp)).alloc (.cells #[.string (bs ds)] 9)).cell 0
    simpa using this
  have c2 : (((w.alloc (.cells #[.string (bs cn), .string (bs cs), .slice AI ifs.length cI, .int .i64 fl, .int .i64 ld, .slice A l.length cap] 47)).alloc (.cells #[.string (bs nm)] 9)).alloc (.cells #[.string (bs ds)] 9)).cell? ⟨w.heap.size + 1 + 1, 0, none⟩ = some (.string (bs ds)) := by
    have := (Blk.new_at (w := (w.alloc (.cells #[.string (bs cn), .string (bs cs), .slice AI ifs.length cI, .int .i64 fl, .int .i64 ld, .slice A l.length cap] 47)).alloc (.cells #[.string (bs nm)] 9)) (t := 9) (cs := #[.string (bs ds)]) (g := w.heap.size + 1 + 1) (by simp)).cell 0
    simpa using this
  have HI := hid (indexMeth_any A cap l _ _ nm ds _ (hA.upd hU) hl c1 c2)
  clear c1 c2
  have HU := hid hU
  clear hU
  go_wp2_with fail
  refine HI.out.mono ?_
  rintro e w2 ⟨rfl, hU2⟩
  go_wp2
  go_ret
  exact ⟨rfl, HU.out.trans hU2⟩
end Go.Proofs.YtjjdlgjofjfgmaaDoor
