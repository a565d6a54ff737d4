/-
  sameMethod: whether two methods are the same; walked. (Layer 25; printed by gen_repF.py.)
-/
import Derived.Test.YtfpdeiefkimaaaaGreatDoorR8
import Derived.Deep.DeepCutAuto
set_option linter.unusedSimpArgs false
set_option linter.unusedVariables false
namespace Go.Proofs.YtfpdeiefkimaaaaGreatDoor
open Go.RowKit Go.Sort

/-- Are two methods the same? -/
def eqM (a b : MethS) : Bool := decide (a.nm = b.nm) && decide (a.ds = b.ds) && decide (a.fl = b.fl) && decide (a.lo = b.lo) && decide (a.st = b.st) && decide (a.code = b.code)
theorem eqM_iff {a b : MethS} : eqM a b = true ↔ a = b := by
  obtain ⟨a1, a2, a3, a4, a5, a6⟩ := a
  obtain ⟨b1, b2, b3, b4, b5, b6⟩ := b
  simp [eqM, and_assoc]
set_option maxHeartbeats 8000000 in
set_option maxRecDepth 100000 in
theorem sameMeth_any (a b : MethL) (w : World) (ha : a.fit w) (hb : b.fit w) (hla : a.code.length ≤ 1000000) (hlb : b.code.length ≤ 1000000) :
    Calls Tryz.prog 68 #[a.v, b.v] w fun e w' => e = .returned (.bool (eqM (methSOf a) (methSOf b))) ∧ Upd w w' [] := by
  have HU := hid (((Upd.refl w []).alloc (.cells a.cells 86)).alloc (.cells b.cells 86))
  have Hq := hid (equalI_any a.A b.A a.cap b.cap a.code b.code _ (ha.at_.upd HU.out) (hb.at_.upd HU.out) (by omega) (by omega) ha.cap hb.cap)
  have Hd : Hid (eqM (methSOf a) (methSOf b) = (decide (a.nm = b.nm) && decide (a.ds = b.ds) && decide (a.fl = b.fl) && decide (a.lo = b.lo) && decide (a.st = b.st) && decide (a.code = b.code))) := hid rfl
  clear ha hb hla hlb
  unfold MethL.v MethL.cells
  unfold MethL.cells at HU Hq
  by_cases h_nm : a.nm = b.nm
  · have t_nm : ((bs a.nm).toList == (bs b.nm).toList) = true := by rw [bs_beq]; exact decide_eq_true h_nm
    by_cases h_ds : a.ds = b.ds
    · have t_ds : ((bs a.ds).toList == (bs b.ds).toList) = true := by rw [bs_beq]; exact decide_eq_true h_ds
      by_cases h_fl : a.fl = b.fl
      · have t_fl : (a.fl == b.fl) = true := by rw [beq_iff_eq]; exact h_fl
        by_cases h_lo : a.lo = b.lo
        · have t_lo : (a.lo == b.lo) = true := by rw [beq_iff_eq]; exact h_lo
          by_cases h_st : a.st = b.st
          · have t_st : (a.st == b.st) = true := by rw [beq_iff_eq]; exact h_st
            have hR : Hid (eqM (methSOf a) (methSOf b) = decide (a.code = b.code)) := hid (by rw [Hd.out]; simp [h_nm, h_ds, h_fl, h_lo, h_st])
            clear h_nm h_ds h_fl h_lo h_st Hd
            obtain ⟨an, ad, af, al, at_, aA, ac, ax⟩ := a
            obtain ⟨bn, bd, bf, bl, bt, bA, bc, bx⟩ := b
            simp only at t_nm t_ds t_fl t_lo t_st HU Hq hR ⊢
            go_enter Tryz.func68, Tryz.ntmps68
            go_wp2_with fail
            refine Hq.out.mono ?_
            rintro e w1 ⟨rfl, hU1⟩
            have HU1 := hid (HU.out.trans hU1)
            clear hU1 Hq HU
            go_wp2
            go_ret
            exact ⟨by rw [hR.out]; rfl, HU1.out⟩
          · have t_st : (a.st == b.st) = false := by rw [beq_eq_false_iff_ne]; exact h_st
            have hR : Hid (eqM (methSOf a) (methSOf b) = false) := hid (by rw [Hd.out]; simp [h_st])
            clear h_nm h_ds h_fl h_lo h_st Hd Hq
            obtain ⟨an, ad, af, al, at_, aA, ac, ax⟩ := a
            obtain ⟨bn, bd, bf, bl, bt, bA, bc, bx⟩ := b
            simp only at t_nm t_ds t_fl t_lo t_st HU hR ⊢
            go_enter Tryz.func68, Tryz.ntmps68
            go_wp2
            go_ret
            exact ⟨by rw [hR.out]; rfl, HU.out⟩
        · have t_lo : (a.lo == b.lo) = false := by rw [beq_eq_false_iff_ne]; exact h_lo
          have hR : Hid (eqM (methSOf a) (methSOf b) = false) := hid (by rw [Hd.out]; simp [h_lo])
          clear h_nm h_ds h_fl h_lo Hd Hq
          obtain ⟨an, ad, af, al, at_, aA, ac, ax⟩ := a
          obtain ⟨bn, bd, bf, bl, bt, bA, bc, bx⟩ := b
          simp only at t_nm t_ds t_fl t_lo HU hR ⊢
          go_enter Tryz.func68, Tryz.ntmps68
          go_wp2
          go_ret
          exact ⟨by rw [hR.out]; rfl, HU.out⟩
      · have t_fl : (a.fl == b.fl) = false := by rw [beq_eq_false_iff_ne]; exact h_fl
        have hR : Hid (eqM (methSOf a) (methSOf b) = false) := hid (by rw [Hd.out]; simp [h_fl])
        clear h_nm h_ds h_fl Hd Hq
        obtain ⟨an, ad, af, al, at_, aA, ac, ax⟩ := a
        obtain ⟨bn, bd, bf, bl, bt, bA, bc, bx⟩ := b
        simp only at t_nm t_ds t_fl HU hR ⊢
        go_enter Tryz.func68, Tryz.ntmps68
        go_wp2
        go_ret
        exact ⟨by rw [hR.out]; rfl, HU.out⟩
    · have t_ds : ((bs a.ds).toList == (bs b.ds).toList) = false := by rw [bs_beq]; exact decide_eq_false h_ds
      have hR : Hid (eqM (methSOf a) (methSOf b) = false) := hid (by rw [Hd.out]; simp [h_ds])
      clear h_nm h_ds Hd Hq
      obtain ⟨an, ad, af, al, at_, aA, ac, ax⟩ := a
      obtain ⟨bn, bd, bf, bl, bt, bA, bc, bx⟩ := b
      simp only at t_nm t_ds HU hR ⊢
      go_enter Tryz.func68, Tryz.ntmps68
      go_wp2
      go_ret
      exact ⟨by rw [hR.out]; rfl, HU.out⟩
  · have t_nm : ((bs a.nm).toList == (bs b.nm).toList) = false := by rw [bs_beq]; exact decide_eq_false h_nm
    have hR : Hid (eqM (methSOf a) (methSOf b) = false) := hid (by rw [Hd.out]; simp [h_nm])
    clear h_nm Hd Hq
    obtain ⟨an, ad, af, al, at_, aA, ac, ax⟩ := a
    obtain ⟨bn, bd, bf, bl, bt, bA, bc, bx⟩ := b
    simp only at t_nm HU hR ⊢
    go_enter Tryz.func68, Tryz.ntmps68
    go_wp2
    go_ret
    exact ⟨by rw [hR.out]; rfl, HU.out⟩
end Go.Proofs.YtfpdeiefkimaaaaGreatDoor
/-
  slices.EqualFunc at methods, by sameMethod; walked. (Layer 25; printed by gen_repG.py.)
-/
set_option linter.unusedSimpArgs false
set_option linter.unusedVariables false
namespace Go.Proofs.YtfpdeiefkimaaaaGreatDoor
open Go.RowKit Go.Sort

/-- Are two lists the same, thing by thing? -/
def eqLs {α : Type} (f : α → α → Bool) : List α → List α → Bool
  | [], [] => true
  | x :: s, y :: t => f x y && eqLs f s t
  | _, _ => false
theorem eqLs_len {α : Type} {f : α → α → Bool} : ∀ {l m : List α}, l.length ≠ m.length → eqLs f l m = false
  | [], [], h => absurd rfl h
  | [], _ :: _, _ => rfl
  | _ :: _, [], _ => rfl
  | x :: s, y :: t, h => by
    unfold eqLs
    rw [eqLs_len (l := s) (m := t) (by simpa using h), Bool.and_false]
theorem eqLs_all {α : Type} {f : α → α → Bool} : ∀ {l m : List α}, l.length = m.length → (∀ i (hi : i < l.length) (hj : i < m.length), f l[i] m[i] = true) → eqLs f l m = true
  | [], [], _, _ => rfl
  | [], _ :: _, h, _ => absurd h (by simp)
  | _ :: _, [], h, _ => absurd h (by simp)
  | x :: s, y :: t, h, hh => by
    unfold eqLs
    rw [show f x y = true from hh 0 (by simp) (by simp), eqLs_all (l := s) (m := t) (by simpa using h) (fun i hi hj => by have := hh (i + 1) (Nat.succ_lt_succ hi) (Nat.succ_lt_succ hj); rwa [List.getElem_cons_succ, List.getElem_cons_succ] at this)]
    rfl
theorem eqLs_bad {α : Type} {f : α → α → Bool} : ∀ {l m : List α} (i : Nat) (hi : i < l.length) (hj : i < m.length), f l[i] m[i] = false → eqLs f l m = false
  | [], _, i, hi, _, _ => absurd hi (by simp)
  | _ :: _, [], i, _, hj, _ => absurd hj (by simp)
  | x :: s, y :: t, 0, _, _, h => by
    unfold eqLs
    rw [show f x y = false from h, Bool.false_and]
  | x :: s, y :: t, i + 1, hi, hj, h => by
    unfold eqLs
    rw [eqLs_bad (l := s) (m := t) i (by simpa using hi) (by simpa using hj) (by rwa [List.getElem_cons_succ, List.getElem_cons_succ] at h), Bool.and_false]
theorem eqLs_iff {α : Type} {f : α → α → Bool} (hf : ∀ x y, f x y = true ↔ x = y) : ∀ {l m : List α}, eqLs f l m = true ↔ l = m
  | [], [] => by simp [eqLs]
  | [], _ :: _ => by simp [eqLs]
  | _ :: _, [] => by simp [eqLs]
  | x :: s, y :: t => by
    unfold eqLs
    rw [Bool.and_eq_true, hf, eqLs_iff hf (l := s) (m := t), List.cons.injEq]
set_option maxHeartbeats 8000000 in
set_option maxRecDepth 100000 in
theorem equalMs_any (A B : Option Addr) (ca cb : Nat) (l m : List MethL) (w : World) (hA : MethsAt w A l) (hB : MethsAt w B m) (hfa : ∀ x, x ∈ l → x.fit w ∧ x.code.length ≤ 1000000) (hfb : ∀ x, x ∈ m → x.fit w ∧ x.code.length ≤ 1000000) (hl : l.length ≤ 1000000000) (hm : m.length ≤ 1000000000) (hca : l.length ≤ ca) (hcb : m.length ≤ cb) :
    Calls Tryz.prog 67 #[.slice A l.length ca, .slice B m.length cb, .func (.func 68) #[] #[]] w fun e w' => e = .returned (.bool (eqLs eqM (l.map methSOf) (m.map methSOf))) ∧ Upd w w' [] := by
  have HA := hid hA
  have HB := hid hB
  have HFa := hid hfa
  have HFb := hid hfb
  clear hA hB hfa hfb
  by_cases hlen : l.length = m.length
  · have Hlen := hid hlen
    have hli : ((l.length : Int) != (m.length : Int)) = false := by rw [hlen]; simp
    have hlm : m.length ≤ l.length := by omega
    have hml : l.length ≤ m.length := by omega
    clear hlen
    go_enter Tryz.func67, Tryz.ntmps67
    go_wp2
    go_loopw [17] (fun t wr => ∃ k : Nat, t = .int .i64 k ∧ k ≤ l.length ∧ Hid ((∀ i (hi : i < l.length) (hj : i < m.length), i < k → eqM (methSOf l[i]) (methSOf m[i]) = true) ∧ Upd w wr [])) (fun t _ => l.length - (intOf t).toNat)
    case atStart => exact ⟨0, rfl, Nat.zero_le _, hid ⟨fun i _ _ h => absurd h (by omega), Upd.refl _ _⟩⟩
    case round =>
      obtain ⟨k, rfl, hk, HK⟩ := hrel
      by_cases hlt : k < l.length
      · obtain ⟨b1, o1, rfl, hb1, hc1⟩ := (HA.out.upd HK.out.2) (by intro e; have := congrArg List.length e; simp only [List.length_nil] at this; omega)
        obtain ⟨b2, o2, rfl, hb2, hc2⟩ := (HB.out.upd HK.out.2) (by intro e; have := congrArg List.length e; simp only [List.length_nil] at this; omega)
        have hlt2 : k < m.length := by omega
        have Hst := hid (fun (e : eqM (methSOf l[k]) (methSOf m[k]) = true) => show (∀ i (hi : i < l.length) (hj : i < m.length), i < k + 1 → eqM (methSOf l[i]) (methSOf m[i]) = true) from fun i hi hj h => by
          rcases Nat.lt_or_ge i k with h1 | h1
          · exact HK.out.1 i hi hj h1
          · have : i = k := by omega
            subst this
            exact e)
        have Hne := hid (fun (e : eqM (methSOf l[k]) (methSOf m[k]) = false) => show eqLs eqM (l.map methSOf) (m.map methSOf) = false from eqLs_bad k (by simpa using hlt) (by simpa using hlt2) (by simpa using e))
        have HU := hid HK.out.2
        have Hsm := fun (W : World) (u : Upd w W []) => hid (sameMeth_any l[k] m[k] W ((HFa.out _ (List.getElem_mem hlt)).1.upd u) ((HFb.out _ (List.getElem_mem hlt2)).1.upd u) (HFa.out _ (List.getElem_mem hlt)).2 (HFb.out _ (List.getElem_mem hlt2)).2)
        obtain ⟨p0, p1, p2, p3, p4, p5, p6, p7, ep⟩ : ∃ p0 p1 p2 p3 p4 p5 p6 p7, l[k] = MethL.mk p0 p1 p2 p3 p4 p5 p6 p7 := ⟨_, _, _, _, _, _, _, _, rfl⟩
        obtain ⟨q0, q1, q2, q3, q4, q5, q6, q7, eq⟩ : ∃ q0 q1 q2 q3 q4 q5 q6 q7, m[k] = MethL.mk q0 q1 q2 q3 q4 q5 q6 q7 := ⟨_, _, _, _, _, _, _, _, rfl⟩
        obtain ⟨x0, x1, x2, x3, x4, x5⟩ := MethsAt.six hc1 hlt ep
        obtain ⟨y0, y1, y2, y3, y4, y5⟩ := MethsAt.six hc2 hlt2 eq
        rw [ep, eq] at Hst Hne Hsm
        unfold MethL.v MethL.cells at Hsm
        simp only at Hsm
        clear hc1 hc2 HK ep eq
        have HU1 := hid (HU.out.alloc (.cells #[.string (bs p0), .string (bs p1), .int .i64 p2, .int .i64 p3, .int .i64 p4, .slice p5 p7.length p6] 86))
        have HU2 := hid (HU1.out.alloc (.cells #[.string (bs q0), .string (bs q1), .int .i64 q2, .int .i64 q3, .int .i64 q4, .slice q5 q7.length q6] 86))
        go_upto_region 6 with (fail)
        go_upto_region 7 with (fail)
        have HB1 := hid ((Blk.new wr 86 #[.string (bs p0), .string (bs p1), .int .i64 p2, .int .i64 p3, .int .i64 p4, .slice p5 p7.length p6]).alloc (.cells #[.string (bs q0), .string (bs q1), .int .i64 q2, .int .i64 q3, .int .i64 q4, .slice q5 q7.length q6] 86))
        have HB2 := hid (Blk.new_at (w := wr.alloc (.cells #[.string (bs p0), .string (bs p1), .int .i64 p2, .int .i64 p3, .int .i64 p4, .slice p5 p7.length p6] 86)) (t := 86) (cs := #[.string (bs q0), .string (bs q1), .int .i64 q2, .int .i64 q3, .int .i64 q4, .slice q5 q7.length q6]) (g := wr.heap.size + 1) (by simp))
        clear x0 x1 x2 x3 x4 x5 y0 y1 y2 y3 y4 y5
        revert HU2 HB1 HB2
        generalize (wr.alloc (.cells #[.string (bs p0), .string (bs p1), .int .i64 p2, .int .i64 p3, .int .i64 p4, .slice p5 p7.length p6] 86)).alloc (.cells #[.string (bs q0), .string (bs q1), .int .i64 q2, .int .i64 q3, .int .i64 q4, .slice q5 q7.length q6] 86) = w2
        intro HU2 HB1 HB2
        have u0 := (HB1.out.cell 0).trans (show _ = some (.string (bs p0)) from rfl)
        have u1 := (HB1.out.cell 1).trans (show _ = some (.string (bs p1)) from rfl)
        have u2 := (HB1.out.cell 2).trans (show _ = some (.int .i64 p2) from rfl)
        have u3 := (HB1.out.cell 3).trans (show _ = some (.int .i64 p3) from rfl)
        have u4 := (HB1.out.cell 4).trans (show _ = some (.int .i64 p4) from rfl)
        have u5 := (HB1.out.cell 5).trans (show _ = some (.slice p5 p7.length p6) from rfl)
        have v0 := (HB2.out.cell 0).trans (show _ = some (.string (bs q0)) from rfl)
        have v1 := (HB2.out.cell 1).trans (show _ = some (.string (bs q1)) from rfl)
        have v2 := (HB2.out.cell 2).trans (show _ = some (.int .i64 q2) from rfl)
        have v3 := (HB2.out.cell 3).trans (show _ = some (.int .i64 q3) from rfl)
        have v4 := (HB2.out.cell 4).trans (show _ = some (.int .i64 q4) from rfl)
        have v5 := (HB2.out.cell 5).trans (show _ = some (.slice q5 q7.length q6) from rfl)
        have hu1 := HB1.out.lt
        have hu2 := HB2.out.lt
        go_wp2_with fail
        refine (Hsm _ HU2.out).out.mono ?_
        rintro e w3 ⟨rfl, hU3⟩
        have HU3 := hid (HU2.out.trans hU3)
        clear hU3 Hsm
        generalize hq : eqM (methSOf (MethL.mk p0 p1 p2 p3 p4 p5 p6 p7)) (methSOf (MethL.mk q0 q1 q2 q3 q4 q5 q6 q7)) = q at Hst Hne ⊢
        clear hq
        cases q with
        | true =>
          go_wp2
          go_roundw
          case rel => exact ⟨k + 1, (by go_num), by omega, hid ⟨Hst.out trivial, HU3.out⟩⟩
          case measure => simp [intOf]; omega
        | false =>
          go_wp2
          go_ret
          exact ⟨by rw [Hne.out trivial]; rfl, HU3.out⟩
      · obtain rfl : k = l.length := by omega
        have HR := hid (show eqLs eqM (l.map methSOf) (m.map methSOf) = true from eqLs_all (by simpa using Hlen.out) (fun i hi hj => by rw [List.getElem_map, List.getElem_map]; exact HK.out.1 i (by simpa using hi) (by simpa using hj) (by simpa using hi)))
        have HU := hid HK.out.2
        clear HK
        go_wp2
        go_ret
        exact ⟨by rw [HR.out]; rfl, HU.out⟩
  · have hli : ((l.length : Int) != (m.length : Int)) = true := by rw [bne_iff_ne]; omega
    have HR := hid (show eqLs eqM (l.map methSOf) (m.map methSOf) = false from eqLs_len (by simpa using hlen))
    clear hlen
    go_enter Tryz.func67, Tryz.ntmps67
    go_wp2
    go_ret
    exact ⟨by rw [HR.out]; rfl, Upd.refl _ _⟩
end Go.Proofs.YtfpdeiefkimaaaaGreatDoor
/-
  sameClass: whether two classes are the same; walked. (Layer 25; printed by gen_repH.py.)
-/
set_option linter.unusedSimpArgs false
set_option linter.unusedVariables false
namespace Go.Proofs.YtfpdeiefkimaaaaGreatDoor
open Go.RowKit Go.Sort

/-- What of a class is short. -/
def ClassL.little (c : ClassL) : Prop := c.ifs.length ≤ 1000000 ∧ c.ms.length ≤ 1000000 ∧ ∀ m, m ∈ c.ms → m.code.length ≤ 1000000
/-- Are two classes the same? -/
def eqC (a b : RdS) : Bool := decide (a.nm = b.nm) && decide (a.sup = b.sup) && decide (a.ifs = b.ifs) && decide (a.fl = b.fl) && decide (a.ld = b.ld) && eqLs eqM a.ms b.ms
theorem eqC_iff {a b : RdS} (h : a.st = b.st) : eqC a b = true ↔ a = b := by
  obtain ⟨a1, a2, a3, a4, a5, a6, a7⟩ := a
  obtain ⟨b1, b2, b3, b4, b5, b6, b7⟩ := b
  have := eqLs_iff (f := eqM) (fun x y => eqM_iff) (l := a6) (m := b6)
  simp only at h
  simp [eqC, and_assoc, this, h]
set_option maxHeartbeats 8000000 in
set_option maxRecDepth 100000 in
theorem sameCls2_any (a b : ClassL) (w : World) (hla : a.little) (hlb : b.little) (ha : a.fit w) (hb : b.fit w) :
    Calls Tryz.prog 32 #[a.v, b.v] w fun e w' => e = .returned (.bool (eqC (rdOf a) (rdOf b))) ∧ Upd w w' [] := by
  have HU := hid (((Upd.refl w []).alloc (.cells a.cells 46)).alloc (.cells b.cells 46))
  have Hi := fun (W : World) (u : Upd w W []) => hid (equalS_any a.AI b.AI a.cI b.cI a.ifs b.ifs W (ha.ifs.upd u) (hb.ifs.upd u) (by have := hla.1; omega) (by have := hlb.1; omega) ha.capI hb.capI)
  have Hm := fun (W : World) (u : Upd w W []) => hid (equalMs_any a.AM b.AM a.cM b.cM a.ms b.ms W (ha.ms.upd u) (hb.ms.upd u) (fun x hx => ⟨(ha.meths x hx).upd u, hla.2.2 x hx⟩) (fun x hx => ⟨(hb.meths x hx).upd u, hlb.2.2 x hx⟩) (by have := hla.2.1; omega) (by have := hlb.2.1; omega) ha.capM hb.capM)
  have Hd : Hid (eqC (rdOf a) (rdOf b) = (decide (a.nm = b.nm) && decide (a.sup = b.sup) && decide (a.ifs = b.ifs) && decide (a.fl = b.fl) && decide (a.ld = b.ld) && eqLs eqM (a.ms.map methSOf) (b.ms.map methSOf))) := hid rfl
  have HB1 := hid ((Blk.new w 46 a.cells).alloc (.cells b.cells 46))
  have HB2 := hid (Blk.new_at (w := w.alloc (.cells a.cells 46)) (t := 46) (cs := b.cells) (g := w.heap.size + 1) (by simp))
  clear ha hb hla hlb
  unfold ClassL.v ClassL.cells
  unfold ClassL.cells at HU HB1 HB2
  by_cases h_nm : a.nm = b.nm
  · have t_nm : ((bs a.nm).toList == (bs b.nm).toList) = true := by rw [bs_beq]; exact decide_eq_true h_nm
    by_cases h_sup : a.sup = b.sup
    · have t_sup : ((bs a.sup).toList == (bs b.sup).toList) = true := by rw [bs_beq]; exact decide_eq_true h_sup
      by_cases h_fl : a.fl = b.fl
      · have t_fl : (a.fl == b.fl) = true := by rw [beq_iff_eq]; exact h_fl
        by_cases h_ld : a.ld = b.ld
        · have t_ld : (a.ld == b.ld) = true := by rw [beq_iff_eq]; exact h_ld
          have Hnm := hid h_nm
          have Hsup := hid h_sup
          have Hfl := hid h_fl
          have Hld := hid h_ld
          clear h_nm h_sup h_fl h_ld
          obtain ⟨an, asup, aI, aci, aifs, af, al, aM, acm, ams⟩ := a
          obtain ⟨bn, bsup, bI, bci, bifs, bf, bl, bM, bcm, bms⟩ := b
          simp only at t_nm t_sup t_fl t_ld HU Hi Hm HB1 HB2 Hd Hnm Hsup Hfl Hld ⊢
          go_enter Tryz.func32, Tryz.ntmps32
          go_wp2_with fail
          revert HU HB1 HB2
          generalize (w.alloc (.cells #[.string (bs an), .string (bs asup), .slice aI aifs.length aci, .int .i64 af, .int .i64 al, .slice aM ams.length acm] 46)).alloc (.cells #[.string (bs bn), .string (bs bsup), .slice bI bifs.length bci, .int .i64 bf, .int .i64 bl, .slice bM bms.length bcm] 46) = w0
          intro HU HB1 HB2
          refine (Hi _ HU.out).out.mono ?_
          rintro e w1 ⟨rfl, hU1⟩
          have HB1 := hid (hU1.blk HB1.out (by simp))
          have HB2 := hid (hU1.blk HB2.out (by simp))
          have HU := hid (HU.out.trans hU1)
          clear hU1
          have u0 := (HB1.out.cell 0).trans (show _ = some (.string (bs an)) from rfl)
          have u1 := (HB1.out.cell 1).trans (show _ = some (.string (bs asup)) from rfl)
          have u2 := (HB1.out.cell 2).trans (show _ = some (.slice aI aifs.length aci) from rfl)
          have u3 := (HB1.out.cell 3).trans (show _ = some (.int .i64 af) from rfl)
          have u4 := (HB1.out.cell 4).trans (show _ = some (.int .i64 al) from rfl)
          have u5 := (HB1.out.cell 5).trans (show _ = some (.slice aM ams.length acm) from rfl)
          have ul := HB1.out.lt
          have v0 := (HB2.out.cell 0).trans (show _ = some (.string (bs bn)) from rfl)
          have v1 := (HB2.out.cell 1).trans (show _ = some (.string (bs bsup)) from rfl)
          have v2 := (HB2.out.cell 2).trans (show _ = some (.slice bI bifs.length bci) from rfl)
          have v3 := (HB2.out.cell 3).trans (show _ = some (.int .i64 bf) from rfl)
          have v4 := (HB2.out.cell 4).trans (show _ = some (.int .i64 bl) from rfl)
          have v5 := (HB2.out.cell 5).trans (show _ = some (.slice bM bms.length bcm) from rfl)
          have vl := HB2.out.lt
          by_cases h_if : aifs = bifs
          · rw [decide_eq_true h_if]
            have Hif := hid h_if
            clear h_if
            go_wp2_with fail
            refine (Hm _ HU.out).out.mono ?_
            rintro e w2 ⟨rfl, hU2⟩
            have HU2 := hid (HU.out.trans hU2)
            clear hU2
            generalize hq : eqLs eqM (ams.map methSOf) (bms.map methSOf) = q at Hd ⊢
            clear hq
            go_wp2
            go_ret
            exact ⟨by rw [Hd.out]; simp [Hnm.out, Hsup.out, Hfl.out, Hld.out, Hif.out], HU2.out⟩
          · rw [decide_eq_false h_if]
            have hR := hid (show eqC _ _ = false from Hd.out.trans (by simp [h_if]))
            clear h_if
            go_wp2
            go_ret
            exact ⟨by rw [hR.out]; rfl, HU.out⟩
        · have t_ld : (a.ld == b.ld) = false := by rw [beq_eq_false_iff_ne]; exact h_ld
          have Hnm := hid h_nm
          have Hsup := hid h_sup
          have Hfl := hid h_fl
          have Hld := hid h_ld
          clear h_nm h_sup h_fl h_ld
          obtain ⟨an, asup, aI, aci, aifs, af, al, aM, acm, ams⟩ := a
          obtain ⟨bn, bsup, bI, bci, bifs, bf, bl, bM, bcm, bms⟩ := b
          simp only at t_nm t_sup t_fl t_ld HU Hi Hm HB1 HB2 Hd Hnm Hsup Hfl Hld ⊢
          go_enter Tryz.func32, Tryz.ntmps32
          go_wp2_with fail
          revert HU HB1 HB2
          generalize (w.alloc (.cells #[.string (bs an), .string (bs asup), .slice aI aifs.length aci, .int .i64 af, .int .i64 al, .slice aM ams.length acm] 46)).alloc (.cells #[.string (bs bn), .string (bs bsup), .slice bI bifs.length bci, .int .i64 bf, .int .i64 bl, .slice bM bms.length bcm] 46) = w0
          intro HU HB1 HB2
          refine (Hi _ HU.out).out.mono ?_
          rintro e w1 ⟨rfl, hU1⟩
          have HB1 := hid (hU1.blk HB1.out (by simp))
          have HB2 := hid (hU1.blk HB2.out (by simp))
          have HU := hid (HU.out.trans hU1)
          clear hU1
          have u0 := (HB1.out.cell 0).trans (show _ = some (.string (bs an)) from rfl)
          have u1 := (HB1.out.cell 1).trans (show _ = some (.string (bs asup)) from rfl)
          have u2 := (HB1.out.cell 2).trans (show _ = some (.slice aI aifs.length aci) from rfl)
          have u3 := (HB1.out.cell 3).trans (show _ = some (.int .i64 af) from rfl)
          have u4 := (HB1.out.cell 4).trans (show _ = some (.int .i64 al) from rfl)
          have u5 := (HB1.out.cell 5).trans (show _ = some (.slice aM ams.length acm) from rfl)
          have ul := HB1.out.lt
          have v0 := (HB2.out.cell 0).trans (show _ = some (.string (bs bn)) from rfl)
          have v1 := (HB2.out.cell 1).trans (show _ = some (.string (bs bsup)) from rfl)
          have v2 := (HB2.out.cell 2).trans (show _ = some (.slice bI bifs.length bci) from rfl)
          have v3 := (HB2.out.cell 3).trans (show _ = some (.int .i64 bf) from rfl)
          have v4 := (HB2.out.cell 4).trans (show _ = some (.int .i64 bl) from rfl)
          have v5 := (HB2.out.cell 5).trans (show _ = some (.slice bM bms.length bcm) from rfl)
          have vl := HB2.out.lt
          by_cases h_if : aifs = bifs
          · rw [decide_eq_true h_if]
            have Hif := hid h_if
            clear h_if
            have hR := hid (show eqC _ _ = false from Hd.out.trans (by simp [Hld.out]))
            go_wp2
            go_ret
            exact ⟨by rw [hR.out]; rfl, HU.out⟩
          · rw [decide_eq_false h_if]
            have hR := hid (show eqC _ _ = false from Hd.out.trans (by simp [h_if]))
            clear h_if
            go_wp2
            go_ret
            exact ⟨by rw [hR.out]; rfl, HU.out⟩
      · have t_fl : (a.fl == b.fl) = false := by rw [beq_eq_false_iff_ne]; exact h_fl
        have Hnm := hid h_nm
        have Hsup := hid h_sup
        have Hfl := hid h_fl
        clear h_nm h_sup h_fl
        obtain ⟨an, asup, aI, aci, aifs, af, al, aM, acm, ams⟩ := a
        obtain ⟨bn, bsup, bI, bci, bifs, bf, bl, bM, bcm, bms⟩ := b
        simp only at t_nm t_sup t_fl HU Hi Hm HB1 HB2 Hd Hnm Hsup Hfl ⊢
        go_enter Tryz.func32, Tryz.ntmps32
        go_wp2_with fail
        revert HU HB1 HB2
        generalize (w.alloc (.cells #[.string (bs an), .string (bs asup), .slice aI aifs.length aci, .int .i64 af, .int .i64 al, .slice aM ams.length acm] 46)).alloc (.cells #[.string (bs bn), .string (bs bsup), .slice bI bifs.length bci, .int .i64 bf, .int .i64 bl, .slice bM bms.length bcm] 46) = w0
        intro HU HB1 HB2
        refine (Hi _ HU.out).out.mono ?_
        rintro e w1 ⟨rfl, hU1⟩
        have HB1 := hid (hU1.blk HB1.out (by simp))
        have HB2 := hid (hU1.blk HB2.out (by simp))
        have HU := hid (HU.out.trans hU1)
        clear hU1
        have u0 := (HB1.out.cell 0).trans (show _ = some (.string (bs an)) from rfl)
        have u1 := (HB1.out.cell 1).trans (show _ = some (.string (bs asup)) from rfl)
        have u2 := (HB1.out.cell 2).trans (show _ = some (.slice aI aifs.length aci) from rfl)
        have u3 := (HB1.out.cell 3).trans (show _ = some (.int .i64 af) from rfl)
        have u4 := (HB1.out.cell 4).trans (show _ = some (.int .i64 al) from rfl)
        have u5 := (HB1.out.cell 5).trans (show _ = some (.slice aM ams.length acm) from rfl)
        have ul := HB1.out.lt
        have v0 := (HB2.out.cell 0).trans (show _ = some (.string (bs bn)) from rfl)
        have v1 := (HB2.out.cell 1).trans (show _ = some (.string (bs bsup)) from rfl)
        have v2 := (HB2.out.cell 2).trans (show _ = some (.slice bI bifs.length bci) from rfl)
        have v3 := (HB2.out.cell 3).trans (show _ = some (.int .i64 bf) from rfl)
        have v4 := (HB2.out.cell 4).trans (show _ = some (.int .i64 bl) from rfl)
        have v5 := (HB2.out.cell 5).trans (show _ = some (.slice bM bms.length bcm) from rfl)
        have vl := HB2.out.lt
        by_cases h_if : aifs = bifs
        · rw [decide_eq_true h_if]
          have Hif := hid h_if
          clear h_if
          have hR := hid (show eqC _ _ = false from Hd.out.trans (by simp [Hfl.out]))
          go_wp2
          go_ret
          exact ⟨by rw [hR.out]; rfl, HU.out⟩
        · rw [decide_eq_false h_if]
          have hR := hid (show eqC _ _ = false from Hd.out.trans (by simp [h_if]))
          clear h_if
          go_wp2
          go_ret
          exact ⟨by rw [hR.out]; rfl, HU.out⟩
    · have t_sup : ((bs a.sup).toList == (bs b.sup).toList) = false := by rw [bs_beq]; exact decide_eq_false h_sup
      have hR := hid (show eqC (rdOf a) (rdOf b) = false from Hd.out.trans (by simp [h_sup]))
      clear h_nm h_sup Hd Hi Hm HB1 HB2
      obtain ⟨an, asup, aI, aci, aifs, af, al, aM, acm, ams⟩ := a
      obtain ⟨bn, bsup, bI, bci, bifs, bf, bl, bM, bcm, bms⟩ := b
      simp only at t_nm t_sup HU hR ⊢
      go_enter Tryz.func32, Tryz.ntmps32
      go_wp2
      go_ret
      exact ⟨by rw [hR.out]; rfl, HU.out⟩
  · have t_nm : ((bs a.nm).toList == (bs b.nm).toList) = false := by rw [bs_beq]; exact decide_eq_false h_nm
    have hR := hid (show eqC (rdOf a) (rdOf b) = false from Hd.out.trans (by simp [h_nm]))
    clear h_nm Hd Hi Hm HB1 HB2
    obtain ⟨an, asup, aI, aci, aifs, af, al, aM, acm, ams⟩ := a
    obtain ⟨bn, bsup, bI, bci, bifs, bf, bl, bM, bcm, bms⟩ := b
    simp only at t_nm HU hR ⊢
    go_enter Tryz.func32, Tryz.ntmps32
    go_wp2
    go_ret
    exact ⟨by rw [hR.out]; rfl, HU.out⟩
end Go.Proofs.YtfpdeiefkimaaaaGreatDoor
/-
  slices.EqualFunc at classes, by sameClass; walked. (Layer 25; printed by gen_repG.py.)
-/
set_option linter.unusedSimpArgs false
set_option linter.unusedVariables false
namespace Go.Proofs.YtfpdeiefkimaaaaGreatDoor
open Go.RowKit Go.Sort

def ClsAt (w : World) (A : Option Addr) (l : List ClassL) : Prop :=
  l ≠ [] → ∃ bk off, A = some ⟨bk, off, none⟩ ∧ bk < w.heap.size ∧ ∀ i (h : i < l.length), ∀ j, j < 6 → w.cell? ⟨bk, off + i * 6 + j, none⟩ = l[i].cells[j]?
theorem ClsAt.upd {w w' : World} {A : Option Addr} {l : List ClassL} (h : ClsAt w A l) (u : Upd w w' []) : ClsAt w' A l := by
  intro hl
  obtain ⟨bk, off, e, hb, hc⟩ := h hl
  refine ⟨bk, off, e, Nat.lt_of_lt_of_le hb u.size, fun i hi j hj => ?_⟩
  rw [u.cells.1 _ _ hb]
  exact hc i hi j hj
theorem ClsAt.six {w : World} {bk off : Nat} {l : List ClassL} (hc : ∀ i (h : i < l.length), ∀ j, j < 6 → w.cell? ⟨bk, off + i * 6 + j, none⟩ = l[i].cells[j]?) {i : Nat} (h : i < l.length) {nm sup : List UInt8} {AI : Option Addr} {cI : Nat} {ifs : List (List UInt8)} {fl ld : Int} {AM : Option Addr} {cM : Nat} {ms : List MethL} (e : l[i] = ⟨nm, sup, AI, cI, ifs, fl, ld, AM, cM, ms⟩) :
    w.cell? ⟨bk, off + i * 6, none⟩ = some (.string (bs nm)) ∧ w.cell? ⟨bk, off + i * 6 + 1, none⟩ = some (.string (bs sup)) ∧ w.cell? ⟨bk, off + i * 6 + 2, none⟩ = some (.slice AI ifs.length cI) ∧ w.cell? ⟨bk, off + i * 6 + 3, none⟩ = some (.int .i64 fl) ∧
      w.cell? ⟨bk, off + i * 6 + 4, none⟩ = some (.int .i64 ld) ∧ w.cell? ⟨bk, off + i * 6 + 5, none⟩ = some (.slice AM ms.length cM) := by
  have q := fun j hj => hc i h j hj
  rw [e] at q
  exact ⟨q 0 (by omega), q 1 (by omega), q 2 (by omega), q 3 (by omega), q 4 (by omega), q 5 (by omega)⟩
set_option maxHeartbeats 8000000 in
set_option maxRecDepth 100000 in
theorem equalCs_any (A B : Option Addr) (ca cb : Nat) (l m : List ClassL) (w : World) (hA : ClsAt w A l) (hB : ClsAt w B m) (hfa : ∀ x, x ∈ l → x.little ∧ x.fit w) (hfb : ∀ x, x ∈ m → x.little ∧ x.fit w) (hl : l.length ≤ 1000000000) (hm : m.length ≤ 1000000000) (hca : l.length ≤ ca) (hcb : m.length ≤ cb) :
    Calls Tryz.prog 30 #[.slice A l.length ca, .slice B m.length cb, .func (.func 32) #[] #[]] w fun e w' => e = .returned (.bool (eqLs eqC (l.map rdOf) (m.map rdOf))) ∧ Upd w w' [] := by
  have HA := hid hA
  have HB := hid hB
  have HFa := hid hfa
  have HFb := hid hfb
  clear hA hB hfa hfb
  by_cases hlen : l.length = m.length
  · have Hlen := hid hlen
    have hli : ((l.length : Int) != (m.length : Int)) = false := by rw [hlen]; simp
    have hlm : m.length ≤ l.length := by omega
    have hml : l.length ≤ m.length := by omega
    clear hlen
    go_enter Tryz.func30, Tryz.ntmps30
    go_wp2
    go_loopw [17] (fun t wr => ∃ k : Nat, t = .int .i64 k ∧ k ≤ l.length ∧ Hid ((∀ i (hi : i < l.length) (hj : i < m.length), i < k → eqC (rdOf l[i]) (rdOf m[i]) = true) ∧ Upd w wr [])) (fun t _ => l.length - (intOf t).toNat)
    case atStart => exact ⟨0, rfl, Nat.zero_le _, hid ⟨fun i _ _ h => absurd h (by omega), Upd.refl _ _⟩⟩
    case round =>
      obtain ⟨k, rfl, hk, HK⟩ := hrel
      by_cases hlt : k < l.length
      · obtain ⟨b1, o1, rfl, hb1, hc1⟩ := (HA.out.upd HK.out.2) (by intro e; have := congrArg List.length e; simp only [List.length_nil] at this; omega)
        obtain ⟨b2, o2, rfl, hb2, hc2⟩ := (HB.out.upd HK.out.2) (by intro e; have := congrArg List.length e; simp only [List.length_nil] at this; omega)
        have hlt2 : k < m.length := by omega
        have Hst := hid (fun (e : eqC (rdOf l[k]) (rdOf m[k]) = true) => show (∀ i (hi : i < l.length) (hj : i < m.length), i < k + 1 → eqC (rdOf l[i]) (rdOf m[i]) = true) from fun i hi hj h => by
          rcases Nat.lt_or_ge i k with h1 | h1
          · exact HK.out.1 i hi hj h1
          · have : i = k := by omega
            subst this
            exact e)
        have Hne := hid (fun (e : eqC (rdOf l[k]) (rdOf m[k]) = false) => show eqLs eqC (l.map rdOf) (m.map rdOf) = false from eqLs_bad k (by simpa using hlt) (by simpa using hlt2) (by simpa using e))
        have HU := hid HK.out.2
        have Hsm := fun (W : World) (u : Upd w W []) => hid (sameCls2_any l[k] m[k] W (HFa.out _ (List.getElem_mem hlt)).1 (HFb.out _ (List.getElem_mem hlt2)).1 ((HFa.out _ (List.getElem_mem hlt)).2.upd u) ((HFb.out _ (List.getElem_mem hlt2)).2.upd u))
        obtain ⟨p0, p1, p2, p3, p4, p5, p6, p7, p8, p9, ep⟩ : ∃ p0 p1 p2 p3 p4 p5 p6 p7 p8 p9, l[k] = ClassL.mk p0 p1 p2 p3 p4 p5 p6 p7 p8 p9 := ⟨_, _, _, _, _, _, _, _, _, _, rfl⟩
        obtain ⟨q0, q1, q2, q3, q4, q5, q6, q7, q8, q9, eq⟩ : ∃ q0 q1 q2 q3 q4 q5 q6 q7 q8 q9, m[k] = ClassL.mk q0 q1 q2 q3 q4 q5 q6 q7 q8 q9 := ⟨_, _, _, _, _, _, _, _, _, _, rfl⟩
        obtain ⟨x0, x1, x2, x3, x4, x5⟩ := ClsAt.six hc1 hlt ep
        obtain ⟨y0, y1, y2, y3, y4, y5⟩ := ClsAt.six hc2 hlt2 eq
        rw [ep, eq] at Hst Hne Hsm
        unfold ClassL.v ClassL.cells at Hsm
        simp only at Hsm
        clear hc1 hc2 HK ep eq
        have HU1 := hid (HU.out.alloc (.cells #[.string (bs p0), .string (bs p1), .slice p2 p4.length p3, .int .i64 p5, .int .i64 p6, .slice p7 p9.length p8] 46))
        have HU2 := hid (HU1.out.alloc (.cells #[.string (bs q0), .string (bs q1), .slice q2 q4.length q3, .int .i64 q5, .int .i64 q6, .slice q7 q9.length q8] 46))
        go_upto_region 6 with (fail)
        go_upto_region 7 with (fail)
        have HB1 := hid ((Blk.new wr 46 #[.string (bs p0), .string (bs p1), .slice p2 p4.length p3, .int .i64 p5, .int .i64 p6, .slice p7 p9.length p8]).alloc (.cells #[.string (bs q0), .string (bs q1), .slice q2 q4.length q3, .int .i64 q5, .int .i64 q6, .slice q7 q9.length q8] 46))
        have HB2 := hid (Blk.new_at (w := wr.alloc (.cells #[.string (bs p0), .string (bs p1), .slice p2 p4.length p3, .int .i64 p5, .int .i64 p6, .slice p7 p9.length p8] 46)) (t := 46) (cs := #[.string (bs q0), .string (bs q1), .slice q2 q4.length q3, .int .i64 q5, .int .i64 q6, .slice q7 q9.length q8]) (g := wr.heap.size + 1) (by simp))
        clear x0 x1 x2 x3 x4 x5 y0 y1 y2 y3 y4 y5
        revert HU2 HB1 HB2
        generalize (wr.alloc (.cells #[.string (bs p0), .string (bs p1), .slice p2 p4.length p3, .int .i64 p5, .int .i64 p6, .slice p7 p9.length p8] 46)).alloc (.cells #[.string (bs q0), .string (bs q1), .slice q2 q4.length q3, .int .i64 q5, .int .i64 q6, .slice q7 q9.length q8] 46) = w2
        intro HU2 HB1 HB2
        have u0 := (HB1.out.cell 0).trans (show _ = some (.string (bs p0)) from rfl)
        have u1 := (HB1.out.cell 1).trans (show _ = some (.string (bs p1)) from rfl)
        have u2 := (HB1.out.cell 2).trans (show _ = some (.slice p2 p4.length p3) from rfl)
        have u3 := (HB1.out.cell 3).trans (show _ = some (.int .i64 p5) from rfl)
        have u4 := (HB1.out.cell 4).trans (show _ = some (.int .i64 p6) from rfl)
        have u5 := (HB1.out.cell 5).trans (show _ = some (.slice p7 p9.length p8) from rfl)
        have v0 := (HB2.out.cell 0).trans (show _ = some (.string (bs q0)) from rfl)
        have v1 := (HB2.out.cell 1).trans (show _ = some (.string (bs q1)) from rfl)
        have v2 := (HB2.out.cell 2).trans (show _ = some (.slice q2 q4.length q3) from rfl)
        have v3 := (HB2.out.cell 3).trans (show _ = some (.int .i64 q5) from rfl)
        have v4 := (HB2.out.cell 4).trans (show _ = some (.int .i64 q6) from rfl)
        have v5 := (HB2.out.cell 5).trans (show _ = some (.slice q7 q9.length q8) from rfl)
        have hu1 := HB1.out.lt
        have hu2 := HB2.out.lt
        go_wp2_with fail
        refine (Hsm _ HU2.out).out.mono ?_
        rintro e w3 ⟨rfl, hU3⟩
        have HU3 := hid (HU2.out.trans hU3)
        clear hU3 Hsm
        generalize hq : eqC (rdOf (ClassL.mk p0 p1 p2 p3 p4 p5 p6 p7 p8 p9)) (rdOf (ClassL.mk q0 q1 q2 q3 q4 q5 q6 q7 q8 q9)) = q at Hst Hne ⊢
        clear hq
        cases q with
        | true =>
          go_wp2
          go_roundw
          case rel => exact ⟨k + 1, (by go_num), by omega, hid ⟨Hst.out trivial, HU3.out⟩⟩
          case measure => simp [intOf]; omega
        | false =>
          go_wp2
          go_ret
          exact ⟨by rw [Hne.out trivial]; rfl, HU3.out⟩
      · obtain rfl : k = l.length := by omega
        have HR := hid (show eqLs eqC (l.map rdOf) (m.map rdOf) = true from eqLs_all (by simpa using Hlen.out) (fun i hi hj => by rw [List.getElem_map, List.getElem_map]; exact HK.out.1 i (by simpa using hi) (by simpa using hj) (by simpa using hi)))
        have HU := hid HK.out.2
        clear HK
        go_wp2
        go_ret
        exact ⟨by rw [HR.out]; rfl, HU.out⟩
  · have hli : ((l.length : Int) != (m.length : Int)) = true := by rw [bne_iff_ne]; omega
    have HR := hid (show eqLs eqC (l.map rdOf) (m.map rdOf) = false from eqLs_len (by simpa using hlen))
    clear hlen
    go_enter Tryz.func30, Tryz.ntmps30
    go_wp2
    go_ret
    exact ⟨by rw [HR.out]; rfl, Upd.refl _ _⟩
end Go.Proofs.YtfpdeiefkimaaaaGreatDoor
/-
  report.Same: whether two worlds have the same classes; walked. (Layer 25.)
-/
set_option linter.unusedSimpArgs false
set_option linter.unusedVariables false
namespace Go.Proofs.YtfpdeiefkimaaaaGreatDoor
open Go.RowKit Go.Sort

theorem rows_at : ∀ (l : List CIt) (i : Nat) (h : i < l.length) (j : Nat), j < 6 → (l.flatMap CIt.row)[i * 6 + j]? = (CIt.row l[i])[j]?
  | [], i, h, _, _ => absurd h (by simp)
  | x :: l, 0, _, j, hj => by
    show (CIt.row x ++ l.flatMap CIt.row)[0 * 6 + j]? = _
    rw [List.getElem?_append_left (by show 0 * 6 + j < 6; omega)]
    simp
  | x :: l, i + 1, h, j, hj => by
    show (CIt.row x ++ l.flatMap CIt.row)[(i + 1) * 6 + j]? = _
    rw [List.getElem?_append_right (by show 6 ≤ (i + 1) * 6 + j; omega), show (i + 1) * 6 + j - (CIt.row x).length = i * 6 + j by show (i + 1) * 6 + j - 6 = _; omega]
    exact rows_at l i (by simpa using h) j hj
theorem ClsI.len {w : World} {ws : List RdS} {k : Nat} {l : List CIt} {A : Option Addr} {c : Nat} {wr : World} (h : ClsI w ws k l A c wr) (hk : k ≤ ws.length) : l.length = k := by
  have := congrArg List.length h.rs
  rw [List.length_map, List.length_take] at this
  omega
theorem ClsI.at_ {w : World} {ws : List RdS} {k : Nat} {l : List CIt} {A : Option Addr} {c : Nat} {wr : World} (h : ClsI w ws k l A c wr) (hk : k ≤ ws.length) : ClsAt wr A (l.map CIt.cl) := by
  intro hne
  have hll := h.len hk
  have hpos : 0 < k := by
    rw [← hll]
    cases l with
    | nil => exact absurd rfl hne
    | cons a t => simp
  obtain ⟨g, cap', hv, -, -, hlt⟩ := own_form h.row hpos
  have hrow := h.row
  cases hv
  refine ⟨g, 0, rfl, hlt, fun i hi j hj => ?_⟩
  have hi' : i < l.length := by simpa using hi
  rw [Nat.zero_add, hrow.cellAt (i * 6 + j) (by omega), rows_at l i hi' j hj, List.getElem_map]
  have hv := (h.li l[i] (List.getElem_mem hi')).val
  have : (CIt.cl l[i]).cells = #[.string (bs l[i].r.nm), .string (bs l[i].r.sup), l[i].vi, .int .i64 l[i].r.fl, .int .i64 l[i].r.ld, l[i].vm] := by
    injection hv
  rw [this, ← Array.getElem?_toList]
  rfl
theorem ClsI.fits {w : World} {ws : List RdS} {k : Nat} {l : List CIt} {A : Option Addr} {c : Nat} {wr : World} (h : ClsI w ws k l A c wr) (hkept : ∀ r, r ∈ ws → r.kept) : (∀ x, x ∈ l.map CIt.cl → x.little ∧ x.fit wr) ∧ (l.map CIt.cl).map rdOf = ws.take k := by
  have hk : ∀ x, x ∈ l → x.r.kept := fun x hx => by
    have : x.r ∈ l.map CIt.r := List.mem_map_of_mem hx
    rw [h.rs] at this
    exact hkept _ (List.mem_of_mem_take this)
  refine ⟨fun x hx => ?_, ?_⟩
  · obtain ⟨c, hc, rfl⟩ := List.mem_map.1 hx
    have hw := (hk c hc).wf
    refine ⟨⟨by show c.r.ifs.length ≤ _; have := hw.ifs; omega, by show (List.zipWith methOf c.r.ms c.cs).length ≤ _; rw [List.length_zipWith]; have := hw.ms; omega, fun m hm => Nat.le_trans (clsOf_code hw m hm) (by omega)⟩, (h.li c hc).fit (hk c hc).fine hw (by omega)⟩
  · rw [← h.rs, List.map_map]
    apply List.map_congr_left
    intro c hc
    exact rd_same (h.li c hc).len (hk c hc).st
theorem HW.kept {w : World} {b mb : Nat} {es : List Ent} {S : List Nat} (h : HW w b mb es S) : ∀ r, r ∈ rsOf es → r.kept := by
  obtain ⟨A, cap, n, D, gs, h⟩ := h
  intro r hr
  obtain ⟨e, he, rfl⟩ := List.mem_map.1 hr
  obtain ⟨k, hk, rfl⟩ := List.getElem_of_mem he
  obtain ⟨vi, vm, cs, A', cap', hE⟩ := h.ent k hk (by rw [h.len]; exact hk)
  exact hE.kept
/-- classes, as a slice of classes. -/
theorem classes_any {w : World} {b mb : Nat} {es : List Ent} {S : List Nat} (h : HW w b mb es S) :
    Calls Tryz.prog 31 #[.pointer (some ⟨b, 0, none⟩)] w fun e w' => ∃ A c l, e = .returned (.slice A (List.length (α := ClassL) l) c) ∧ ClsAt w' A l ∧ (∀ x, x ∈ l → x.little ∧ x.fit w') ∧ l.map rdOf = rsOf es ∧ l.length ≤ c ∧ Upd w w' [] := by
  refine (classes_walk h).mono ?_
  rintro e w' ⟨A, c, l, rfl, hI⟩
  have hn : es.length ≤ (rsOf es).length := by simp [rsOf]
  have hll : (l.map CIt.cl).length = es.length := by rw [List.length_map, hI.len hn]
  obtain ⟨h1, h2⟩ := hI.fits h.kept
  rw [List.take_of_length_le (by simp [rsOf])] at h2
  exact ⟨A, c, l.map CIt.cl, by rw [hll], hI.at_ hn, h1, h2, by rw [hll]; exact own_cap hI.row, hI.upd⟩
theorem st_all {es : List Ent} (h : ∀ r, r ∈ rsOf es → r.kept) : ∀ r, r ∈ rsOf es → r.st = 8 := fun r hr => (h r hr).st
theorem eqCs_iff : ∀ {l m : List RdS}, (∀ r, r ∈ l → r.st = 8) → (∀ r, r ∈ m → r.st = 8) → (eqLs eqC l m = true ↔ l = m)
  | [], [], _, _ => by simp [eqLs]
  | [], _ :: _, _, _ => by simp [eqLs]
  | _ :: _, [], _, _ => by simp [eqLs]
  | x :: s, y :: t, h, k => by
    unfold eqLs
    rw [Bool.and_eq_true, eqC_iff (by rw [h x (by simp), k y (by simp)]), eqCs_iff (l := s) (m := t) (fun r hr => h r (List.mem_cons_of_mem _ hr)) (fun r hr => k r (List.mem_cons_of_mem _ hr)), List.cons.injEq]
set_option maxHeartbeats 8000000 in
set_option maxRecDepth 100000 in
theorem sameWorld_any {w : World} {b mb b2 mb2 : Nat} {es es2 : List Ent} {S S2 : List Nat} (h : HW w b mb es S) (h2 : HW w b2 mb2 es2 S2) :
    Calls Tryz.prog 13 #[.pointer (some ⟨b, 0, none⟩), .pointer (some ⟨b2, 0, none⟩)] w fun e w' => ∃ q : Bool, e = .returned (.bool q) ∧ (q = true ↔ rsOf es = rsOf es2) ∧ Upd w w' [] := by
  have Hk := hid (eqCs_iff (st_all h.kept) (st_all h2.kept))
  have Hc := hid (classes_any h)
  have hn2 := h2.good.len
  have hn1 := h.good.len
  have H2 := hid h2
  clear h h2
  go_enter Tryz.func13, Tryz.ntmps13
  go_wp2_with fail
  refine Hc.out.mono ?_
  rintro e w1 ⟨A, c, l, rfl, hA, hf, hr, hc, hU⟩
  have HA := hid hA
  have HF := hid hf
  have HR := hid hr
  have HU := hid hU
  have Hc1 := hid hc
  clear hA hf hr hU hc Hc
  go_wp2_with fail
  refine (classes_any (H2.out.upd HU.out)).mono ?_
  rintro e w2 ⟨A2, c2, l2, rfl, hA2, hf2, hr2, hc2, hU2⟩
  have hll : l.length = es.length := by have := congrArg List.length HR.out; simpa [rsOf] using this
  have hll2 : l2.length = es2.length := by have := congrArg List.length hr2; simpa [rsOf] using this
  have Heq := hid (equalCs_any A A2 c c2 l l2 w2 (HA.out.upd hU2) hA2 (fun x hx => ⟨(HF.out x hx).1, (HF.out x hx).2.upd hU2⟩) hf2 (by omega) (by omega) Hc1.out hc2)
  rw [HR.out, hr2] at Heq
  have HU2 := hid (HU.out.trans hU2)
  clear hA2 hf2 hr2 hc2 hU2 hll hll2
  go_wp2_with fail
  refine Heq.out.mono ?_
  rintro e w3 ⟨rfl, hU3⟩
  have HU3 := hid (HU2.out.trans hU3)
  clear hU3 Heq
  go_wp2
  go_ret
  exact ⟨_, rfl, Hk.out, HU3.out⟩
end Go.Proofs.YtfpdeiefkimaaaaGreatDoor
