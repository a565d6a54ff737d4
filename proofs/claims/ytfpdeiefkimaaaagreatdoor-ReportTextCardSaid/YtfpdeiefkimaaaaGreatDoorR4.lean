/-
  above at a name that a class has; walked.
-/
import Derived.Test.YtfpdeiefkimaaaaGreatDoorR1
import Derived.Maps.OwnSet
import Derived.Maps.OwnOps
import Derived.Maps.Views
import Derived.Test.YtfpdeiefkimaaaaGreatDoorR2
import Derived.Test.YtfpdeiefkimaaaaGreatDoorK1
import Derived.Deep.QuietTactic
import Derived.BigQuiet
import Derived.OwnWalk
import Derived.Lib.QuietBelow
set_option linter.unusedSimpArgs false
set_option linter.unusedVariables false
namespace Go.Proofs.YtfpdeiefkimaaaaGreatDoor
open Go.RowKit Go.WideShapes Go.Maps Go.WideMaps

/-- What above answers of a class that is there. -/
def aboveR (ip ic pb want tg : Bool) (k : Nat) : Int × Int := if ip != want || (!want && ic && decide (k ≠ 0)) then (0, 23) else if pb && !tg then (0, 22) else (k, 0)
set_option maxHeartbeats 8000000 in
set_option maxRecDepth 100000 in
theorem above_found (b mb n k ge : Nat) (A : Option Addr) (cap : Nat) (gs : List Nat) (s0 s1 u0 u1 : ByteArray) (A1 A2 P1 P2 : Option Addr) (n1 n2 k1 k2 m1 m2 l1 l2 : Nat) (q6 q7 q8 : Value) (cf cl pf pl : Int) (D : DataW Unit) (nm : ByteArray) (want tg ip ic pb : Bool) (w : World) (hip : (bits BinOp.and .i64 pf 512 != 0) = ip) (hic : (bits BinOp.and .i64 cf 512 != 0) = ic) (hpb : (bits BinOp.and .i64 pf 1 == 0) = pb) (hb : WBox w b A cap (.map (some mb)) gs) (hm : w.ownsMap Tryz.prog 9 (plainElem Tryz.prog 3) mb n D)
    (hn : nm.size ≤ maxLen) (hh : Maps.has D (.string nm.data.toList) = true) (ha : ∀ z, D.atKey (.string nm.data.toList) z = .lit (.int .i64 k)) (hk : k < gs.length) (hg : gs[k] = ge) (hl : gs.length ≤ 1000000) (he : Blk w ge 97 #[.string u0, .string u1, .slice P1 m1 l1, .int .i64 pf, .int .i64 pl, .slice P2 m2 l2, q6, q7, q8])
    (ht : ∀ W, Upd w W [] → Calls Tryz.prog 76 #[.agg #[.string s0, .string s1, .slice A1 n1 k1, .int .i64 cf, .int .i64 cl, .slice A2 n2 k2], .agg #[.string u0, .string u1, .slice P1 m1 l1, .int .i64 pf, .int .i64 pl, .slice P2 m2 l2]] W fun e w' => e = .returned (.bool tg) ∧ Upd W w' []) :
    Calls Tryz.prog 36 #[.pointer (some ⟨b, 0, none⟩), .agg #[.string s0, .string s1, .slice A1 n1 k1, .int .i64 cf, .int .i64 cl, .slice A2 n2 k2], .string nm, .bool want] w fun e w' => e = .returned (.tuple #[.int .i64 (aboveR ip ic pb want tg k).1, .int .i64 (aboveR ip ic pb want tg k).2]) ∧ Upd w w' [] := by
  have hal := (Upd.refl w []).alloc (.cells #[.string s0, .string s1, .slice A1 n1 k1, .int .i64 cf, .int .i64 cl, .slice A2 n2 k2] 46)
  have HU := hid hal
  have HM := hid (hm.alloc (.cells #[.string s0, .string s1, .slice A1 n1 k1, .int .i64 cf, .int .i64 cl, .slice A2 n2 k2] 46))
  have hbb := hal.blk hb.blk (by simp)
  have x0 := (hbb.cell 0).trans (show _ = some (.slice A gs.length cap) from rfl)
  have x1 := (hbb.cell 1).trans (show _ = some (.map (some mb)) from rfl)
  have HK := hid (keyOf_string_mk Tryz.underlying9 hn)
  have hlt := hb.blk.lt
  obtain ⟨g, cap', hv, hc, -, hgl⟩ := own_form hb.all (by omega)
  have hall := hb.all
  cases hv
  have y0 := hall.cellAt k (by omega)
  rw [List.getElem?_map, List.getElem?_eq_getElem hk, hg] at y0
  have y : w.cell? ⟨g, k, none⟩ = some (.pointer (some ⟨ge, 0, none⟩)) := y0
  have hglt := he.lt
  have HBx := hid (Blk.new w 46 #[.string s0, .string s1, .slice A1 n1 k1, .int .i64 cf, .int .i64 cl, .slice A2 n2 k2])
  have e0 := (he.cell 0).trans (show _ = some (.string u0) from rfl)
  have e1 := (he.cell 1).trans (show _ = some (.string u1) from rfl)
  have e2 := (he.cell 2).trans (show _ = some (.slice P1 m1 l1) from rfl)
  have e3 := (he.cell 3).trans (show _ = some (.int .i64 pf) from rfl)
  have e4 := (he.cell 4).trans (show _ = some (.int .i64 pl) from rfl)
  have e5 := (he.cell 5).trans (show _ = some (.slice P2 m2 l2) from rfl)
  have Hht := hid ht
  have Hat := hid ha
  have Hip := fun W => hid (iface_any (.string u0) (.string u1) (.slice P1 m1 l1) (.int .i64 pl) (.slice P2 m2 l2) pf W)
  have Hif := fun W => hid (iface_any (.string s0) (.string s1) (.slice A1 n1 k1) (.int .i64 cl) (.slice A2 n2 k2) cf W)
  rw [hip] at Hip
  rw [hic] at Hif
  clear hip hic
  clear hm hb hn hall y0 hbb hal he ht ha
  go_enter Tryz.func36, Tryz.ntmps36
  go_wp2_with (first | (at_lookup; (refine wpList_lookup_own_ok_int _ rfl _ _ 74 rfl 9 3 .i64 keyStr Tryz.underlying74 Tryz.underlying3 (zeroNum _) mb n D rfl HM.out _ _ rfl HK.out ?_; rw [hh]; go_loud (intro c hat hwc; rw [Hat.out] at hat; obtain rfl : c = k := by (injection hat with h1; injection h1 with h1 h2; exact h2.symm)))) | fail)
  have HB1 := hid ((Blk.new w 46 #[.string s0, .string s1, .slice A1 n1 k1, .int .i64 cf, .int .i64 cl, .slice A2 n2 k2]).alloc (.cells #[.string u0, .string u1, .slice P1 m1 l1, .int .i64 pf, .int .i64 pl, .slice P2 m2 l2] 46))
  have HB2 := hid (Blk.new_at (w := w.alloc (.cells #[.string s0, .string s1, .slice A1 n1 k1, .int .i64 cf, .int .i64 cl, .slice A2 n2 k2] 46)) (t := 46) (cs := #[.string u0, .string u1, .slice P1 m1 l1, .int .i64 pf, .int .i64 pl, .slice P2 m2 l2]) (g := w.heap.size + 1) (by simp))
  have HU2 := hid (HU.out.alloc (.cells #[.string u0, .string u1, .slice P1 m1 l1, .int .i64 pf, .int .i64 pl, .slice P2 m2 l2] 46))
  refine (Hip _).out.mono ?_
  rintro e w1 ⟨rfl, hU⟩
  have HB3 := hid (hU.blk HB1.out (by simp))
  have HB4 := hid (hU.blk HB2.out (by simp))
  have HU3 := hid (HU2.out.trans hU)
  clear hU HB1 HB2 HU2 e0 e1 e2 e3 e4 e5 x0 x1 y HM HK hat hwc
  have a0 := (HB3.out.cell 0).trans (show _ = some (.string s0) from rfl)
  have a1 := (HB3.out.cell 1).trans (show _ = some (.string s1) from rfl)
  have a2 := (HB3.out.cell 2).trans (show _ = some (.slice A1 n1 k1) from rfl)
  have a3 := (HB3.out.cell 3).trans (show _ = some (.int .i64 cf) from rfl)
  have a4 := (HB3.out.cell 4).trans (show _ = some (.int .i64 cl) from rfl)
  have a5 := (HB3.out.cell 5).trans (show _ = some (.slice A2 n2 k2) from rfl)
  have alt := HB3.out.lt
  have b0 := (HB4.out.cell 0).trans (show _ = some (.string u0) from rfl)
  have b1 := (HB4.out.cell 1).trans (show _ = some (.string u1) from rfl)
  have b2 := (HB4.out.cell 2).trans (show _ = some (.slice P1 m1 l1) from rfl)
  have b3 := (HB4.out.cell 3).trans (show _ = some (.int .i64 pf) from rfl)
  have b4 := (HB4.out.cell 4).trans (show _ = some (.int .i64 pl) from rfl)
  have b5 := (HB4.out.cell 5).trans (show _ = some (.slice P2 m2 l2) from rfl)
  have blt := HB4.out.lt
  cases want with
  | true =>
    cases ip with
    | false =>
      go_wp2
      exact bodyPost_ret (results_tmp2 rfl _ _ _) rfl ⟨rfl, HU3.out⟩
    | true =>
      cases pb with
      | false =>
        go_wp2
        exact bodyPost_ret (results_tmp2 rfl _ _ _) rfl ⟨by simp [aboveR], HU3.out⟩
      | true =>
        go_wp2_with fail
        refine (Hht.out _ HU3.out).mono ?_
        rintro e w3 ⟨rfl, hU4⟩
        have HU5 := hid (HU3.out.trans hU4)
        clear hU4
        cases tg
        · go_wp2
          exact bodyPost_ret (results_tmp2 rfl _ _ _) rfl ⟨by simp [aboveR], HU5.out⟩
        · go_wp2
          exact bodyPost_ret (results_tmp2 rfl _ _ _) rfl ⟨by simp [aboveR], HU5.out⟩
  | false =>
    cases ip with
    | true =>
      go_wp2
      exact bodyPost_ret (results_tmp2 rfl _ _ _) rfl ⟨rfl, HU3.out⟩
    | false =>
      go_wp2_with fail
      refine (Hif _).out.mono ?_
      rintro e w4 ⟨rfl, hU6⟩
      have HU6 := hid (HU3.out.trans hU6)
      have HB5 := hid (hU6.blk HB3.out (by simp))
      have HB6 := hid (hU6.blk HB4.out (by simp))
      clear hU6 a0 a1 a2 a3 a4 a5 b0 b1 b2 b3 b4 b5 alt blt HB3 HB4 HU3
      have a0 := (HB5.out.cell 0).trans (show _ = some (.string s0) from rfl)
      have a1 := (HB5.out.cell 1).trans (show _ = some (.string s1) from rfl)
      have a2 := (HB5.out.cell 2).trans (show _ = some (.slice A1 n1 k1) from rfl)
      have a3 := (HB5.out.cell 3).trans (show _ = some (.int .i64 cf) from rfl)
      have a4 := (HB5.out.cell 4).trans (show _ = some (.int .i64 cl) from rfl)
      have a5 := (HB5.out.cell 5).trans (show _ = some (.slice A2 n2 k2) from rfl)
      have alt := HB5.out.lt
      have b0 := (HB6.out.cell 0).trans (show _ = some (.string u0) from rfl)
      have b1 := (HB6.out.cell 1).trans (show _ = some (.string u1) from rfl)
      have b2 := (HB6.out.cell 2).trans (show _ = some (.slice P1 m1 l1) from rfl)
      have b3 := (HB6.out.cell 3).trans (show _ = some (.int .i64 pf) from rfl)
      have b4 := (HB6.out.cell 4).trans (show _ = some (.int .i64 pl) from rfl)
      have b5 := (HB6.out.cell 5).trans (show _ = some (.slice P2 m2 l2) from rfl)
      have blt := HB6.out.lt
      cases ic with
      | false =>
        cases pb with
        | false =>
          go_wp2
          exact bodyPost_ret (results_tmp2 rfl _ _ _) rfl ⟨by simp [aboveR], HU6.out⟩
        | true =>
          go_wp2_with fail
          refine (Hht.out _ HU6.out).mono ?_
          rintro e w3 ⟨rfl, hU4⟩
          have HU5 := hid (HU6.out.trans hU4)
          clear hU4
          cases tg
          · go_wp2
            exact bodyPost_ret (results_tmp2 rfl _ _ _) rfl ⟨by simp [aboveR], HU5.out⟩
          · go_wp2
            exact bodyPost_ret (results_tmp2 rfl _ _ _) rfl ⟨by simp [aboveR], HU5.out⟩
      | true =>
        rcases Nat.eq_zero_or_pos k with rfl | hk0
        · cases pb with
          | false =>
            go_wp2
            exact bodyPost_ret (results_tmp2 rfl _ _ _) rfl ⟨by simp [aboveR], HU6.out⟩
          | true =>
            go_wp2_with fail
            refine (Hht.out _ HU6.out).mono ?_
            rintro e w3 ⟨rfl, hU4⟩
            have HU5 := hid (HU6.out.trans hU4)
            clear hU4
            cases tg
            · go_wp2
              exact bodyPost_ret (results_tmp2 rfl _ _ _) rfl ⟨by simp [aboveR], HU5.out⟩
            · go_wp2
              exact bodyPost_ret (results_tmp2 rfl _ _ _) rfl ⟨by simp [aboveR], HU5.out⟩
        · have hk1 : ((k : Int) != 0) = true := by
            rw [bne_iff_ne]
            omega
          have Hk := hid (show decide (k ≠ 0) = true by simp; omega)
          go_wp2
          all_goals exact bodyPost_ret (results_tmp2 rfl _ _ _) rfl ⟨by unfold aboveR; rw [Hk.out]; rfl, HU6.out⟩
end Go.Proofs.YtfpdeiefkimaaaaGreatDoor
/-
  A name's package; whether two classes are of one run-time package: walked. (Layers 1 and 6.)
-/
set_option linter.unusedSimpArgs false
set_option linter.unusedVariables false
namespace Go.Proofs.YtfpdeiefkimaaaaGreatDoor
open Go.RowKit

theorem lastAt_none {c : UInt8} : ∀ {l : List UInt8}, (∀ i (h : i < l.length), l[i] ≠ c) → lastAt c l = none
  | [], _ => rfl
  | x :: t, h => by
    unfold lastAt
    rw [lastAt_none (fun i hi => by have := h (i + 1) (Nat.succ_lt_succ hi); rwa [List.getElem_cons_succ] at this)]
    simp only
    rw [if_neg (by have := h 0 (by simp); rwa [List.getElem_cons_zero] at this)]
theorem lastAt_some {c : UInt8} : ∀ {l : List UInt8} {k : Nat} (hk : k < l.length), l[k] = c → (∀ i (h : i < l.length), k < i → l[i] ≠ c) → lastAt c l = some k
  | [], k, hk, _, _ => absurd hk (by simp)
  | x :: t, 0, _, h0, h => by
    unfold lastAt
    rw [lastAt_none (fun i hi => by have := h (i + 1) (Nat.succ_lt_succ hi) (by omega); rwa [List.getElem_cons_succ] at this)]
    simp only
    rw [if_pos (by simpa using h0)]
  | x :: t, k + 1, hk, h0, h => by
    unfold lastAt
    rw [lastAt_some (k := k) (by simpa using hk) (by simpa using h0) (fun i hi hki => by have := h (i + 1) (Nat.succ_lt_succ hi) (by omega); rwa [List.getElem_cons_succ] at this)]
/-- Where the last c stands, or -1. -/
def lastI (c : UInt8) (l : List UInt8) : Int := match lastAt c l with
  | some k => k
  | none => -1
set_option maxHeartbeats 4000000 in
set_option maxRecDepth 100000 in
theorem lastByte_any (l : List UInt8) (c : UInt8) (w : World) (hl : l.length ≤ 4000000000000000000) :
    Calls Tryz.prog 203 #[.string (bs l), .int .u8 c.toNat] w fun e w' => e = .returned (.int .i64 (lastI c l)) ∧ w' = w := by
  have hs := bs_size l
  go_enter Tryz.func203, Tryz.ntmps203
  go_wp2
  go_loopw [5] (fun t wr => ∃ k : Nat, t = .int .i64 ((k : Int) - 1) ∧ k ≤ l.length ∧ Hid (∀ i (h : i < l.length), k ≤ i → l[i] ≠ c) ∧ wr = w) (fun t _ => (intOf t + 1).toNat)
  case atStart => exact ⟨l.length, by first | rfl | go_num | (rw [hs]; go_num), Nat.le_refl _, hid (fun i h1 h2 => absurd h1 (by omega)), rfl⟩
  case round =>
    obtain ⟨k, rfl, hk, HB, rfl⟩ := hrel
    match k, hk, HB with
    | 0, _, HB =>
      have hr := hid (show lastI c l = -1 by
        unfold lastI
        rw [lastAt_none (fun i hi => HB.out i hi (Nat.zero_le _))])
      go_wp2
      go_ret
      exact ⟨by rw [hr.out]; rfl, rfl⟩
    | k + 1, hk, HB =>
      have hk2 : k < (bs l).size := by omega
      have hg := bs_get l k hk2
      obtain ⟨x, hx⟩ : ∃ x, l[k]'(by omega) = x := ⟨_, rfl⟩
      have Hx := hid hx
      rw [hx] at hg
      have hkk : ((k + 1 : Nat) : Int) - 1 = k := by omega
      rw [hkk]
      by_cases hc : x = c
      · subst hc
        have hr := hid (show lastI x l = k by
          unfold lastI
          rw [lastAt_some (k := k) (by omega) Hx.out (fun i hi h2 => HB.out i hi (by omega))])
        clear hx
        go_wp2
        go_ret
        exact ⟨by rw [hr.out]; rfl, rfl⟩
      · have hcb : ((x.toNat : Int) == (c.toNat : Int)) = false := by
          rw [beq_eq_false_iff_ne]
          intro e
          exact hc (UInt8.toNat_inj.1 (by omega))
        clear hx
        go_wp2
        go_roundw
        case rel =>
          refine ⟨k, (by go_num), by omega, hid (fun i hi h2 => ?_), trivial⟩
          rcases Nat.lt_or_ge k i with h3 | h3
          · exact HB.out i hi (by omega)
          · have : i = k := by omega
            subst this
            rw [Hx.out]
            exact hc
        case measure => first | (simp [intOf]; done) | (simp [intOf]; omega)
set_option maxHeartbeats 4000000 in
set_option maxRecDepth 100000 in
theorem package_any (l : List UInt8) (w : World) (hl : l.length ≤ 4000000000000000000) :
    Calls Tryz.prog 132 #[.string (bs l)] w fun e w' => e = .returned (.string (bs (pkgL l))) ∧ w' = w := by
  have Hb := hid (lastByte_any l 47 w hl)
  have Hl : Calls Tryz.prog 175 #[.string (bs l), .int .u8 47] w fun e w' => e = .returned (.int .i64 (lastI 47 l)) ∧ w' = w := by
    go_enter Tryz.func175, Tryz.ntmps175
    go_wp2_with fail
    refine Hb.out.mono ?_
    rintro e w1 ⟨rfl, rfl⟩
    go_wp2
    go_ret
    exact ⟨rfl, rfl⟩
  have HL := hid Hl
  clear Hl Hb
  have hs := bs_size l
  cases h : lastAt 47 l with
  | none =>
    have hr : lastI 47 l = -1 := by unfold lastI; rw [h]
    have hp : pkgL l = [] := by unfold pkgL; rw [h]
    rw [hr] at HL
    rw [hp]
    clear h
    go_enter Tryz.func132, Tryz.ntmps132
    go_wp2_with fail
    refine HL.out.mono ?_
    rintro e w1 ⟨rfl, rfl⟩
    go_wp2
    go_ret
    first
      | exact ⟨rfl, rfl⟩
      | exact ⟨by show Ending.returned (.string ((bs l).extract 0 0)) = _; rw [bs_extract]; rfl, rfl⟩
  | some k =>
    have hr : lastI 47 l = k := by unfold lastI; rw [h]
    have hp : pkgL l = l.take k := by unfold pkgL; rw [h]
    have hk : k < l.length := by
      rcases Nat.lt_or_ge k l.length with h1 | h1
      · exact h1
      · exfalso
        revert h
        clear hr hp HL hs hl
        induction l generalizing k with
        | nil => intro h; cases h
        | cons x t ih =>
          intro h
          unfold lastAt at h
          cases ht : lastAt 47 t with
          | none =>
            rw [ht] at h
            simp only at h
            split at h
            · cases h; simp at h1
            · cases h
          | some j =>
            rw [ht] at h
            cases h
            exact ih j (by simpa using h1) ht
    rw [hr] at HL
    rw [hp]
    have he := hid (show (bs l).extract 0 k = bs (l.take k) by rw [bs_extract]; simp)
    clear h hr hp
    have hm : max (0 : Int) (k : Int) = k := by omega
    go_enter Tryz.func132, Tryz.ntmps132
    go_wp2_with fail
    refine HL.out.mono ?_
    rintro e w1 ⟨rfl, rfl⟩
    go_wp2
    all_goals
      go_ret
      first
        | exact ⟨by rw [← he.out]; rfl, rfl⟩
        | (obtain rfl : k = 0 := by omega
           exact ⟨rfl, rfl⟩)
        | exact ⟨by show Ending.returned (.string ((bs l).extract 0 (max 0 (k : Int)).toNat)) = _; rw [show (max 0 (k : Int)).toNat = k by omega, he.out], rfl⟩
set_option maxHeartbeats 4000000 in
set_option maxRecDepth 100000 in
theorem together_any (s0 s1 u0 u1 : List UInt8) (a2 a5 b2 b5 : Value) (cf cl pf pl : Int) (w : World) (h1 : s0.length ≤ 4000000000000000000) (h2 : u0.length ≤ 4000000000000000000) :
    Calls Tryz.prog 76 #[.agg #[.string (bs s0), .string (bs s1), a2, .int .i64 cf, .int .i64 cl, a5], .agg #[.string (bs u0), .string (bs u1), b2, .int .i64 pf, .int .i64 pl, b5]] w fun e w' => e = .returned (.bool (decide (cl = pl) && decide (pkgL s0 = pkgL u0))) ∧ Upd w w' [] := by
  have HU := hid (((Upd.refl w []).alloc (.cells #[.string (bs s0), .string (bs s1), a2, .int .i64 cf, .int .i64 cl, a5] 46)).alloc (.cells #[.string (bs u0), .string (bs u1), b2, .int .i64 pf, .int .i64 pl, b5] 46))
  have Hp := fun (w : World) (d : Nat) (os : Array Obj) => hid (Calls.regrown_of (w := w) (d := d) (os := os) ((package_any s0 (Go.Sort.grow (redrawn w d) os) h1).mono (fun e w' h => ⟨h.1, by rw [h.2]; exact Below.refl _ _⟩)))
  have Hq := fun (w : World) (d : Nat) (os : Array Obj) => hid (Calls.regrown_of (w := w) (d := d) (os := os) ((package_any u0 (Go.Sort.grow (redrawn w d) os) h2).mono (fun e w' h => ⟨h.1, by rw [h.2]; exact Below.refl _ _⟩)))
  have HB0 := hid ((Blk.new w 46 #[.string (bs s0), .string (bs s1), a2, .int .i64 cf, .int .i64 cl, a5]).alloc (.cells #[.string (bs u0), .string (bs u1), b2, .int .i64 pf, .int .i64 pl, b5] 46))
  have HB1 := hid (Blk.new_at (w := w.alloc (.cells #[.string (bs s0), .string (bs s1), a2, .int .i64 cf, .int .i64 cl, a5] 46)) (t := 46) (cs := #[.string (bs u0), .string (bs u1), b2, .int .i64 pf, .int .i64 pl, b5]) (g := w.heap.size + 1) (by simp))
  have hdp : ((bs (pkgL s0)).toList == (bs (pkgL u0)).toList) = decide (pkgL s0 = pkgL u0) := bs_beq _ _
  go_enter Tryz.func76, Tryz.ntmps76
  go_wp2_with fail
  revert HU HB0 HB1
  generalize (w.alloc (.cells #[.string (bs s0), .string (bs s1), a2, .int .i64 cf, .int .i64 cl, a5] 46)).alloc (.cells #[.string (bs u0), .string (bs u1), b2, .int .i64 pf, .int .i64 pl, b5] 46) = w2
  intro HU HB0 HB1
  have x0 := (HB0.out.cell 0).trans (show _ = some (.string (bs s0)) from rfl)
  have x4 := (HB0.out.cell 4).trans (show _ = some (.int .i64 cl) from rfl)
  have y0 := (HB1.out.cell 0).trans (show _ = some (.string (bs u0)) from rfl)
  have y4 := (HB1.out.cell 4).trans (show _ = some (.int .i64 pl) from rfl)
  have k0 := cell_regrown x0
  have k4 := cell_regrown x4
  have l0 := cell_regrown y0
  have l4 := cell_regrown y4
  by_cases hcp : cl = pl
  · have hb : (cl == pl) = true := by simpa using hcp
    refine wp_region_quiet_below (by kernel_rfl) (by kernel_rfl) ?_
    repeat (any_goals (first
      | go_big_quiet_step (first | exact (Hp _ _ _).out | exact (Hq _ _ _).out)
      | quiet_step (first | exact (Hp _ _ _).out | exact (Hq _ _ _).out)))
    refine wpQuiet_nil ?_
    intro _ hw'
    obtain ⟨⟨dq, osq⟩, hw''⟩ := hw'
    subst hw''
    have hV := HU.out.trans (Upd.of_below (below_regrown w2 dq osq) [])
    go_wp2
    go_ret
    exact ⟨by first | (simp only [hcp, decide_true, Bool.true_and]; done) | (simp only [hcp, decide_false, Bool.false_and]; done) | (simp [hcp]), hV⟩
  · have hb : (cl == pl) = false := by simpa using hcp
    refine wp_region_quiet_below (by kernel_rfl) (by kernel_rfl) ?_
    repeat (any_goals (first
      | go_big_quiet_step (first | exact (Hp _ _ _).out | exact (Hq _ _ _).out)
      | quiet_step (first | exact (Hp _ _ _).out | exact (Hq _ _ _).out)))
    refine wpQuiet_nil ?_
    intro _ hw'
    obtain ⟨⟨dq, osq⟩, hw''⟩ := hw'
    subst hw''
    have hV := HU.out.trans (Upd.of_below (below_regrown w2 dq osq) [])
    go_wp2
    go_ret
    exact ⟨by first | (simp only [hcp, decide_true, Bool.true_and]; done) | (simp only [hcp, decide_false, Bool.false_and]; done) | (simp [hcp]), hV⟩
end Go.Proofs.YtfpdeiefkimaaaaGreatDoor
/-
  above: the class above that a name finds, or the error, of every world; walked. (Layer 6.)
-/
set_option linter.unusedSimpArgs false
set_option linter.unusedVariables false
namespace Go.Proofs.YtfpdeiefkimaaaaGreatDoor
open Go.RowKit Go.WideShapes Go.Maps Go.WideMaps

def rsOf (es : List Ent) : List RdS := es.map Ent.r
theorem names_rs (es : List Ent) : (es.map fun e => e.r.nm) = (rsOf es).map RdS.nm := by simp [rsOf, Function.comp_def]
theorem find_none {ws : List RdS} {nm : List UInt8} (h : nm ∉ ws.map RdS.nm) : ws.findIdx? (fun r => decide (r.nm = nm)) = none := by
  rw [List.findIdx?_eq_none_iff]
  intro r hr
  simp only [decide_eq_false_iff_not]
  rintro rfl
  exact h (List.mem_map_of_mem hr)
theorem find_some {ws : List RdS} {nm : List UInt8} (h : nm ∈ ws.map RdS.nm) : ∃ k, ∃ hk : k < ws.length, ws.findIdx? (fun r => decide (r.nm = nm)) = some k ∧ ws[k].nm = nm := by
  cases hf : ws.findIdx? (fun r => decide (r.nm = nm)) with
  | none =>
    rw [List.findIdx?_eq_none_iff] at hf
    obtain ⟨r, hr, rfl⟩ := List.mem_map.1 h
    have := hf r hr
    simp at this
  | some k =>
    obtain ⟨hk, h1, -⟩ := List.findIdx?_eq_some_iff_getElem.1 hf
    exact ⟨k, hk, rfl, by simpa using h1⟩
/-- A slice's value by its length. -/
theorem own_val {w : World} {base : Nat} {e : TypeId} {size n : Nat} {v : Value} {xs : List Value} (h : w.ownsRow base e size v n xs) : ∃ A cap, v = .slice A n cap := by
  obtain ⟨A, cap, hv, -, -⟩ := own_slice h
  exact ⟨A, cap, hv⟩
theorem above_any {w : World} {b : Nat} {es : List Ent} {S : List Nat} {A : Option Addr} {cap mb n : Nat} {D : DataW Unit} {gs : List Nat} (h : HWo w b es S A cap mb n D gs) (c : RdS) (A1 A2 : Option Addr) (n1 n2 k1 k2 : Nat) (nm : List UInt8) (want : Bool) (hc : c.nm.length ≤ 4000000000000000000) (hn : nm.length ≤ 4000000000000000000) :
    Calls Tryz.prog 36 #[.pointer (some ⟨b, 0, none⟩), .agg #[.string (bs c.nm), .string (bs c.sup), .slice A1 n1 k1, .int .i64 c.fl, .int .i64 c.ld, .slice A2 n2 k2], .string (bs nm), .bool want] w fun e w' => e = .returned (.tuple #[.int .i64 (aboveL (rsOf es) c nm want).1, .int .i64 (aboveL (rsOf es) c nm want).2]) ∧ Upd w w' [] := by
  have hnm : (bs nm).size ≤ maxLen := by rw [bs_size]; unfold maxLen; omega
  have hhas : Maps.has D (.string (bs nm).data.toList) = decide (nm ∈ es.map fun e => e.r.nm) := by rw [bs_data]; exact h.nms.has nm
  by_cases hin : nm ∈ es.map fun e => e.r.nm
  · rw [decide_eq_true hin] at hhas
    rw [names_rs] at hin
    obtain ⟨k, hk, hf, hkn⟩ := find_some hin
    have hke : k < es.length := by simpa [rsOf] using hk
    have hkr : (rsOf es)[k] = es[k].r := by simp [rsOf]
    have hkg : k < gs.length := by rw [h.len]; exact hke
    obtain ⟨vi, vm, cs, A3, cap3, he⟩ := h.ent k hke hkg
    have hat : ∀ z, D.atKey (.string (bs nm).data.toList) z = .lit (.int .i64 k) := fun z => by
      have := h.nms.at_ k (by simpa using hke) z
      rw [List.getElem_map] at this
      rw [bs_data, ← hkn, hkr]
      exact this
    obtain ⟨P1, l1, rfl⟩ := own_val he.li.oi
    obtain ⟨P2, l2, rfl⟩ := own_val he.li.om
    have hL : aboveL (rsOf es) c nm want = if isIf es[k].r != want || (!want && isIf c && decide (k ≠ 0)) then (0, 23) else if !isPub es[k].r && !togL c es[k].r then (0, 22) else (k, 0) := by
      unfold aboveL
      rw [hf]
      simp only
      rw [List.getElem?_eq_getElem hk, hkr]
    have hR : (((aboveL (rsOf es) c nm want).1 : Int), (aboveL (rsOf es) c nm want).2) = aboveR (isIf es[k].r) (isIf c) (!isPub es[k].r) want (togL c es[k].r) k := by
      rw [hL]
      unfold aboveR
      split
      · rfl
      · split
        · rfl
        · rfl
    have hfound := above_found b mb n k gs[k] A cap gs (bs c.nm) (bs c.sup) (bs es[k].r.nm) (bs es[k].r.sup) A1 A2 P1 P2 n1 n2 k1 k2 es[k].r.ifs.length es[k].r.ms.length l1 l2 _ _ _ c.fl c.ld es[k].r.fl es[k].r.ld D (bs nm) want (togL c es[k].r) (isIf es[k].r) (isIf c) (!isPub es[k].r) w rfl rfl (Bool.not_not _).symm h.box h.mp hnm hhas hat hkg rfl (by have := h.good.len; have := h.len; omega) he.blk
      (fun W _ => together_any c.nm c.sup es[k].r.nm es[k].r.sup _ _ _ _ c.fl c.ld es[k].r.fl es[k].r.ld W hc (by have := he.kept.fine.nm; omega))
    refine hfound.mono fun e w' hh => ⟨?_, hh.2⟩
    rw [hh.1, ← hR]
  · rw [decide_eq_false hin] at hhas
    rw [names_rs] at hin
    have hL : aboveL (rsOf es) c nm want = (0, 20) := by
      unfold aboveL
      rw [find_none hin]
    rw [hL]
    exact above_none b mb n _ _ _ _ _ _ _ D (bs nm) want w h.box.blk h.mp hnm hhas
end Go.Proofs.YtfpdeiefkimaaaaGreatDoor
