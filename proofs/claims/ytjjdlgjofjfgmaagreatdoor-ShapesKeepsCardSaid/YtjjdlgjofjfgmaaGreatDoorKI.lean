/-
 SameRef, Same, SameCode, walked.
-/
import Derived.Lib.QuietBelow
import Derived.Test.YtjjdlgjofjfgmaaGreatDoorK6
import Derived.Test.YtjjdlgjofjfgmaaGreatDoorK8
import Derived.Test.YtjjdlgjofjfgmaaGreatDoorKA
import Derived.Test.YtjjdlgjofjfgmaaGreatDoorKF
import Derived.Test.YtjjdlgjofjfgmaaGreatDoorKH
set_option linter.unusedSimpArgs false
set_option linter.unusedVariables false
namespace Go.Proofs.YtjjdlgjofjfgmaaGreatDoor
open Go.RowKit
theorem bs_beqF {a b : List UInt8} (h : a ≠ b) : ((bs a).toList == (bs b).toList) = false := by rw [bs_beq, decide_eq_false h]
theorem bs_beqT (a : List UInt8) : ((bs a).toList == (bs a).toList) = true := by rw [bs_beq, decide_eq_true rfl]
set_option maxHeartbeats 1000000 in
theorem sameRef_any (a b : RefL) (w : World) : Calls Tryz.prog 23 #[a.v, b.v] w fun e w' => e = .returned (.bool (decide (a = b))) ∧ Upd w w' [] := by
 obtain ⟨ai, ac, an, ad⟩ := a
 obtain ⟨bi, bc, bn, bd⟩ := b
 unfold RefL.v
 simp only
 have hU : Upd w ((w.alloc (.cells #[.bool ai, .string (bs ac), .string (bs an), .string (bs ad)] 39)).alloc (.cells #[.bool bi, .string (bs bc), .string (bs bn), .string (bs bd)] 39)) [] := ((Upd.refl _ _).alloc _).alloc _
 by_cases h1 : ai = bi
 ·subst h1
  by_cases h2 : ac = bc
  ·subst h2
   by_cases h3 : an = bn
   ·subst h3
    by_cases h4 : ad = bd
    ·subst h4
     have t1 : (ai == ai) = true := by simp
     have t2 := bs_beqT ac
     have t3 := bs_beqT an
     have t4 := bs_beqT ad
     go_enter Tryz.func23, Tryz.ntmps23
     go_wp2
     go_ret
     exact ⟨bool_ret (by simp_all), hU⟩
    ·have t1 : (ai == ai) = true := by simp
     have t2 := bs_beqT ac
     have t3 := bs_beqT an
     have t4 := bs_beqF h4
     go_enter Tryz.func23, Tryz.ntmps23
     go_wp2
     go_ret
     exact ⟨bool_ret (by simp_all), hU⟩
   ·have t1 : (ai == ai) = true := by simp
    have t2 := bs_beqT ac
    have t3 := bs_beqF h3
    go_enter Tryz.func23, Tryz.ntmps23
    go_wp2
    go_ret
    exact ⟨bool_ret (by simp_all), hU⟩
  ·have t1 : (ai == ai) = true := by simp
   have t2 := bs_beqF h2
   go_enter Tryz.func23, Tryz.ntmps23
   go_wp2
   go_ret
   exact ⟨bool_ret (by simp_all), hU⟩
 ·have t1 : (ai == bi) = false := by simpa using h1
  have e : decide (RefL.mk ai ac an ad = RefL.mk bi bc bn bd) = false := decide_eq_false fun h => h1 (by injection h)
  go_enter Tryz.func23, Tryz.ntmps23
  go_wp2
  go_ret
  exact ⟨bool_ret (by simp_all), hU⟩
set_option maxHeartbeats 2000000 in
set_option maxRecDepth 100000 in
theorem same_any (a b : InstL) (w : World) : Calls Tryz.prog 20 #[a.v, b.v] w fun e w' => e = .returned (.bool (decide (a = b))) ∧ Upd w w' [] := by
 obtain ⟨ao, ak, at_, ar⟩ := a
 obtain ⟨bo, bk, bt, br⟩ := b
 have Hs := fun w => hid (sameRef_any ar br w)
 have hd : ∀ x : Bool, decide (ar = br) = x → decide (InstL.mk ao ak at_ ar = InstL.mk ao ak at_ br) = x := by
  rintro x rfl
  rw [decide_eq_decide]
  simp
 have hU : ∀ l₁ l₂, Upd w ((w.alloc (.cells l₁ 41)).alloc (.cells l₂ 41)) [] := fun _ _ => ((Upd.refl _ _).alloc _).alloc _
 unfold InstL.v InstL.cells
 unfold RefL.v at Hs
 simp only
 by_cases h1 : ao = bo
 ·subst h1
  by_cases h2 : ak = bk
  ·subst h2
   by_cases h3 : at_ = bt
   ·subst h3
    have t1 : (ao == ao) = true := by simp
    have t2 : (ak == ak) = true := by simp
    have t3 := bs_beqT at_
    generalize decide (ar = br) = x at Hs hd
    rw [hd x rfl]
    clear hd
    go_enter Tryz.func20, Tryz.ntmps20
    go_wp2_with fail
    refine (Hs _).out.mono ?_
    rintro e w1 ⟨rfl, hU1⟩
    go_wp2
    go_ret
    exact ⟨bool_ret (by simp_all), (hU _ _).trans hU1⟩
   ·have t1 : (ao == ao) = true := by simp
    have t2 : (ak == ak) = true := by simp
    have t3 := bs_beqF h3
    have e : decide (InstL.mk ao ak at_ ar = InstL.mk ao ak bt br) = false := decide_eq_false fun h => h3 (by injection h)
    rw [e]
    clear hd e
    go_enter Tryz.func20, Tryz.ntmps20
    go_wp2
    go_ret
    exact ⟨bool_ret (by simp_all), hU _ _⟩
  ·have t1 : (ao == ao) = true := by simp
   have t2 : (ak == bk) = false := by simpa using h2
   have e : decide (InstL.mk ao ak at_ ar = InstL.mk ao bk bt br) = false := decide_eq_false fun h => h2 (by injection h)
   rw [e]
   clear hd e
   go_enter Tryz.func20, Tryz.ntmps20
   go_wp2
   go_ret
   exact ⟨bool_ret (by simp_all), hU _ _⟩
 ·have t1 : (ao == bo) = false := by simpa using h1
  have e : decide (InstL.mk ao ak at_ ar = InstL.mk bo bk bt br) = false := decide_eq_false fun h => h1 (by injection h)
  rw [e]
  clear hd e
  go_enter Tryz.func20, Tryz.ntmps20
  go_wp2
  go_ret
  exact ⟨bool_ret (by simp_all), hU _ _⟩
end Go.Proofs.YtjjdlgjofjfgmaaGreatDoor
/-
 SameCode at two equal lists, walked.
-/
set_option linter.unusedSimpArgs false
set_option linter.unusedVariables false
namespace Go.Proofs.YtjjdlgjofjfgmaaGreatDoor
open Go.RowKit Go.Sort
def sameCodeRel (l : List InstL) (w : World) (t : Value) (wr : World) : Prop :=
 ∃ k : Nat, t = .int .i64 k ∧ k ≤ l.length ∧ Upd w wr []
set_option maxHeartbeats 8000000 in
set_option maxRecDepth 100000 in
theorem sameCode_any (A B : Option Addr) (c1 c2 : Nat) (l : List InstL) (w : World) (hA : InstsAt w A l) (hB : InstsAt w B l) (hl : l.length ≤ 2000000000000) :
  Calls Tryz.prog 124 #[.slice A l.length c1, .slice B l.length c2] w fun e w' => e = .returned (.bool true) ∧ Upd w w' [] := by
 have HA := hid hA
 have HB := hid hB
 clear hA hB
 go_enter Tryz.func124, Tryz.ntmps124
 go_wp2
 go_loopw [5] (fun t wr => sameCodeRel l w t wr) (fun t _ => l.length - (intOf t).toNat)
 case atStart => exact ⟨0, rfl, Nat.zero_le _, Upd.refl _ _⟩
 case round =>
  obtain ⟨k, rfl, hk, hU⟩ := hrel
  by_cases hlt : k < l.length
  ·have hne : l ≠ [] := by rintro rfl; simp at hlt
   obtain ⟨b1, o1, rfl, hb1, hc1⟩ := HA.out hne
   obtain ⟨b2, o2, rfl, hb2, hc2⟩ := HB.out hne
   obtain ⟨op, n, tx, r, e⟩ : ∃ op n tx r, l[k] = InstL.mk op n tx r := ⟨_, _, _, _, rfl⟩
   have hr1 : b1 < wr.heap.size := Nat.lt_of_lt_of_le hb1 hU.size
   have hr2 : b2 < wr.heap.size := Nat.lt_of_lt_of_le hb2 hU.size
   obtain ⟨x0, x1, x2, x3, x4, x5, x6⟩ := InstsAt.seven (w := wr) (fun i hi j hj => by rw [hU.cells.1 _ _ hb1]; exact hc1 i hi j hj) hlt e
   obtain ⟨y0, y1, y2, y3, y4, y5, y6⟩ := InstsAt.seven (w := wr) (fun i hi j hj => by rw [hU.cells.1 _ _ hb2]; exact hc2 i hi j hj) hlt e
   have Hs := fun w => hid (same_any ⟨op, n, tx, r⟩ ⟨op, n, tx, r⟩ w)
   unfold InstL.v InstL.cells at Hs
   rw [decide_eq_true rfl] at Hs
   simp only at Hs
   have cs := fun d os => quiet_of (W := wr) (d := d) (os := os) fun w _ => (Hs w).out
   have HS := hid cs
   clear cs hc1 hc2 HA HB e Hs
   have k0 := cell_regrown x0
   have k1 := cell_regrown x1
   have k2 := cell_regrown x2
   have k3 := cell_regrown x3
   have k4 := cell_regrown x4
   have k5 := cell_regrown x5
   have k6 := cell_regrown x6
   have l0 := cell_regrown y0
   have l1 := cell_regrown y1
   have l2 := cell_regrown y2
   have l3 := cell_regrown y3
   have l4 := cell_regrown y4
   have l5 := cell_regrown y5
   have l6 := cell_regrown y6
   go_wp2
   refine wp_region_quiet_below (by kernel_rfl) (by kernel_rfl) ?_
   repeat (any_goals (first
    | go_big_quiet_step (exact HS.out _ _)
    | quiet_step (exact HS.out _ _)))
   refine wpQuiet_nil ?_
   intro _ hw'
   obtain ⟨⟨dq, osq⟩, hw''⟩ := hw'
   subst hw''
   have hV4 : Upd wr (grow (redrawn wr dq) osq) [] := Upd.of_below (below_regrown wr dq osq) []
   have hV5 := hU.trans hV4
   revert hV5
   generalize grow (redrawn wr dq) osq = w4
   intro hV5
   go_wp2
   go_roundw
   case rel => exact ⟨k + 1, by go_num, by omega, hV5⟩
   case measure => simp [intOf]; omega
  ·obtain rfl : k = l.length := by omega
   go_wp2
   go_ret
   exact ⟨rfl, hU⟩
end Go.Proofs.YtjjdlgjofjfgmaaGreatDoor
/-
 The document's reading of a reference's text and of a number, and of a line: the same as package code's; plain laws.
-/
set_option linter.unusedSimpArgs false
set_option linter.unusedVariables false
namespace Go.Proofs.YtjjdlgjofjfgmaaGreatDoor
open Go.RowKit
theorem idxP_append {p : UInt8 → Bool} : ∀ (a b : List UInt8), (∀ x, x ∈ a → p x = false) → idxP p (a ++ b) = a.length + idxP p b
 | [], b, _ => by simp
 | x :: t, b, h => by
  have ih := idxP_append t b (fun y hy => h y (List.mem_cons_of_mem _ hy))
  show (if p x then 0 else idxP p (t ++ b) + 1) = _
  rw [if_neg (by rw [h x (List.mem_cons_self ..)]; simp), ih, List.length_cons]
  omega
theorem idxP_head {p : UInt8 → Bool} {c : UInt8} {t : List UInt8} (h : p c = true) : idxP p (c :: t) = 0 := by
 show (if p c then 0 else idxP p t + 1) = _
 rw [if_pos h]
theorem sepB_or (r : RefL) : sepB r = 58 ∨ sepB r = 46 := by unfold sepB; cases r.ifc <;> simp
theorem docRef_at {r : RefL} (h : r.ok = true) : markL r.text = r.cls.length ∧ openL r.text = r.cls.length + 1 + r.nm.length ∧ r.text.length = r.cls.length + 1 + r.nm.length + r.ds.length ∧ 0 < r.ds.length := by
 have hlen := text_len r
 unfold RefL.ok at h
 simp only [Bool.and_eq_true, decide_eq_true_eq] at h
 obtain ⟨⟨h1, h2⟩, h3⟩ := h
 have hc := parseRefL_mem h1
 obtain ⟨⟨t, ht⟩, -⟩ := descL_mem h2
 have hn := memberB_nums h3
 have hm : markL r.text = r.cls.length := by
  unfold markL
  rw [text_eq, idxP_append r.cls _ (fun x hx => ?_), idxP_head (by rcases sepB_or r with e | e <;> rw [e] <;> decide)]
  ·omega
  ·have := clsB_nums (hc x hx)
   unfold isMark
   rw [Bool.or_eq_false_iff, beq_eq_false_iff_ne, beq_eq_false_iff_ne]
   exact ⟨fun e => this.2.1 (by rw [e]; rfl), fun e => this.2.2.1 (by rw [e]; rfl)⟩
 refine ⟨hm, ?_, hlen, by rw [ht]; simp⟩
 unfold openL
 rw [hm, text_eq, List.drop_left, ht]
 rw [show sepB r :: (r.nm ++ 40 :: t) = (sepB r :: r.nm) ++ 40 :: t by simp, idxP_append (sepB r :: r.nm) _ (fun x hx => ?_), idxP_head (by decide)]
 ·simp; omega
 ·rcases List.mem_cons.1 hx with rfl | hx
  ·rcases sepB_or r with e | e <;> rw [e] <;> decide
  ·have := hn x hx
   rw [beq_eq_false_iff_ne]
   exact fun e => this.2 (by rw [e]; rfl)
theorem docRef_ok {r : RefL} (h : r.ok = true) : docRefOut r.text = (r, 0) := by
 obtain ⟨h1, h2, h3, h4⟩ := docRef_at h
 have e1 := text_dot r
 have e2 := text_cls r
 have e3 := text_nm r
 have e4 := text_ds r
 rw [List.drop_zero] at e2
 have e : docRef r.text = r := by
  unfold docRef
  rw [h2, h1, e2, e4, show r.cls.length + 1 + r.nm.length - (r.cls.length + 1) = r.nm.length by omega, e3]
  have e5 : (decide (r.text[r.cls.length]? = some 58)) = decide (some (sepB r) = some (58 : UInt8)) := by simp only [e1]
  rw [e5]
  obtain ⟨ifc, cls, nm, ds⟩ := r
  simp only [RefL.mk.injEq, and_true]
  unfold sepB
  cases ifc <;> simp
 unfold docRefOut
 rw [if_pos (by omega), e, if_pos h]
theorem docRef_text {l : List UInt8} (h : openL l < l.length) : (docRef l).text = l := by
 have hmo := mark_open h
 have hq := idxP_get isMark l (by show markL l < l.length; omega)
 have hx : l[markL l]? = some (l[idxP isMark l]'(by show markL l < l.length; omega)) := List.getElem?_eq_getElem _
 generalize (l[idxP isMark l]'(by show markL l < l.length; omega)) = x at hq hx
 have hx2 : x = 46 ∨ x = 58 := by
  unfold isMark at hq
  simpa using hq
 have hml : markL l < l.length := by omega
 unfold docRef RefL.text
 simp only
 have hsep : (if decide (l[markL l]? = some 58) = true then [58] else [46]) = [x] := by
  rw [hx]
  rcases hx2 with rfl | rfl <;> decide
 rw [hsep]
 generalize markL l = d at *
 generalize openL l = o at *
 have e1 : l.take d ++ [x] = l.take (d + 1) := by
  rw [List.take_succ_eq_append_getElem hml]
  rw [List.getElem?_eq_getElem hml] at hx
  rw [Option.some.inj hx]
 rw [e1]
 have e2 : l.take (d + 1) ++ (l.drop (d + 1)).take (o - (d + 1)) = l.take o := by
  have e3 : l.take o = l.take ((d + 1) + (o - (d + 1))) := by congr 1; omega
  rw [e3, ← List.take_add]
 rw [e2, List.take_append_drop]
theorem docRef_good {l : List UInt8} (h : (docRefOut l).2 = 0) : (docRefOut l).1.ok = true ∧ (docRefOut l).1.text = l := by
 unfold docRefOut at h ⊢
 split at h
 ·rename_i ho
  rw [if_pos ho]
  split at h
  ·rename_i hk
   rw [if_pos hk]
   exact ⟨hk, docRef_text ho⟩
  ·simp at h
 ·simp at h
theorem docRef_bad {l : List UInt8} (h : (docRefOut l).2 ≠ 0) : docRefOut l = (noRefL, 4) := by
 unfold docRefOut at h ⊢
 split at h
 ·rename_i ho
  rw [if_pos ho]
  split at h
  ·simp at h
  ·rename_i hk
   rw [if_neg hk]
 ·rename_i ho
  rw [if_neg ho]
theorem refOut_bad {l : List UInt8} (h : (refOut l).2 ≠ 0) : refOut l = (noRefL, 4) := by
 unfold refOut at h ⊢
 cases hs : splitRef l with
 | none => rfl
 | some r =>
  rw [hs] at h
  simp only at h ⊢
  cases ho : r.ok with
  | true => rw [ho] at h; simp at h
  | false => rfl
theorem docRefOut_eq (l : List UInt8) : docRefOut l = refOut l := by
 by_cases h1 : (docRefOut l).2 = 0
 ·obtain ⟨h2, h3⟩ := docRef_good h1
  have h4 := refOut_ok h2
  rw [h3] at h4
  rw [h4, ← h1]
 ·by_cases h2 : (refOut l).2 = 0
  ·obtain ⟨h3, h4⟩ := refOut_good h2
   have h5 := docRef_ok h3
   rw [h4] at h5
   exact absurd (by rw [h5]) h1
  ·rw [docRef_bad h1, refOut_bad h2]
theorem foldD_digits : ∀ (u : Nat) (r : List UInt8), foldD 0 (Lib.decDigits u ++ r) = foldD u r := by
 intro u
 induction u using Nat.strongRecOn with
 | ind u ih =>
  intro r
  rw [Lib.decDigits]
  by_cases h : u < 10
  ·rw [dif_pos h, List.singleton_append]
   show (if 48 ≤ (UInt8.toNat _) ∧ (UInt8.toNat _) ≤ 57 then _ else none) = _
   have e : (UInt8.ofNat (48 + u)).toNat = 48 + u := by simp; omega
   simp only [e]
   rw [if_pos (by omega)]
   congr 1
   omega
  ·rw [dif_neg h, List.append_assoc, List.singleton_append, ih (u / 10) (by omega)]
   show (if 48 ≤ (UInt8.toNat _) ∧ (UInt8.toNat _) ≤ 57 then _ else none) = _
   have e : (UInt8.ofNat (48 + u % 10)).toNat = 48 + u % 10 := by simp; omega
   simp only [e]
   rw [if_pos (by omega)]
   congr 1
   omega
theorem decDigits_le : ∀ (k u : Nat), u < 10 ^ (k + 1) → (Lib.decDigits u).length ≤ k + 1
 | 0, u, h => by
  rw [Lib.decDigits, dif_pos (by simpa using h)]
  simp
 | k + 1, u, h => by
  rw [Lib.decDigits]
  by_cases hu : u < 10
  ·rw [dif_pos hu]
   simp
  ·rw [dif_neg hu]
   have := decDigits_le k (u / 10) (by rw [Nat.pow_succ] at h; omega)
   simp
   omega
theorem foldD_lt : ∀ (l : List UInt8) (n m : Nat), foldD n l = some m → m < (n + 1) * 10 ^ l.length
 | [], n, m, h => by
  simp only [foldD, Option.some.injEq] at h
  simp
  omega
 | c :: t, n, m, h => by
  unfold foldD at h
  split at h
  ·rename_i hc
   have h1 := foldD_lt t _ m h
   have h2 : n * 10 + (c.toNat - 48) + 1 ≤ (n + 1) * 10 := by omega
   have h3 := Nat.mul_le_mul_right (10 ^ t.length) h2
   rw [List.length_cons, Nat.pow_succ]
   have h4 : (n + 1) * 10 * 10 ^ t.length = (n + 1) * (10 ^ t.length * 10) := by rw [Nat.mul_assoc, Nat.mul_comm 10]
   omega
  ·cases h
theorem numOut_itoa (n : Int) (h0 : -9999999999 ≤ n) (h1 : n ≤ 9999999999) : numOut (Lib.itoa n) = (n, true) := by
 obtain ⟨c, t, hd, hc1, hc2⟩ := dec_head n.natAbs
 have hl := decDigits_le 9 n.natAbs (by omega)
 have hf := foldD_digits n.natAbs []
 rw [List.append_nil] at hf
 have hf2 : foldD n.natAbs [] = some n.natAbs := rfl
 rw [hf2] at hf
 have hpos : 0 < (Lib.decDigits n.natAbs).length := by rw [hd]; simp
 by_cases hn : n < 0
 ·have e : Lib.itoa n = 45 :: Lib.decDigits n.natAbs := by unfold Lib.itoa; rw [if_pos hn]
  have ha : numAt (Lib.itoa n) = 1 := by rw [e]; rfl
  unfold numOut
  rw [ha, if_neg (by rw [e, List.length_cons]; omega)]
  have e2 : (Lib.itoa n).drop 1 = Lib.decDigits n.natAbs := by rw [e]; rfl
  rw [e2, hf]
  simp only [if_true]
  have e3 : -(n.natAbs : Int) = n := by omega
  rw [e3]
  simp
 ·have e : Lib.itoa n = Lib.decDigits n.natAbs := by unfold Lib.itoa; rw [if_neg hn, show n.toNat = n.natAbs by omega]
  have ha : numAt (Lib.itoa n) = 0 := by
   rw [e, hd]
   unfold numAt
   rw [List.head?_cons, if_neg]
   intro hh
   have := Option.some.inj hh
   rw [this] at hc1
   simp at hc1
  unfold numOut
  rw [ha, if_neg (by rw [e]; omega)]
  have e2 : (Lib.itoa n).drop 0 = Lib.decDigits n.natAbs := by rw [e]; rfl
  rw [e2, hf]
  simp only [Nat.zero_ne_one, if_false]
  have e3 : (n.natAbs : Int) = n := by omega
  rw [e3]
  simp
theorem numOut_good {l : List UInt8} (h : (numOut l).2 = true) : Lib.itoa (numOut l).1 = l ∧ -9999999999 ≤ (numOut l).1 ∧ (numOut l).1 ≤ 9999999999 := by
 unfold numOut at h ⊢
 split at h
 ·simp at h
 ·rename_i hc
  rw [if_neg hc]
  cases hf : foldD 0 (l.drop (numAt l)) with
  | none => rw [hf] at h; simp at h
  | some n =>
   rw [hf] at h
   simp only [decide_eq_true_eq] at h
   have hlt := foldD_lt _ _ _ hf
   have hle : 10 ^ (l.drop (numAt l)).length ≤ 10 ^ 10 := Nat.pow_le_pow_right (by omega) (by rw [List.length_drop]; omega)
   have hn : n < 10000000000 := by
    rw [Nat.zero_add, Nat.one_mul] at hlt
    exact Nat.lt_of_lt_of_le hlt hle
   simp only
   refine ⟨h, ?_, ?_⟩
   ·split <;> omega
   ·split <;> omega
theorem numOut_bad {l : List UInt8} : -9999999999 ≤ (numOut l).1 ∧ (numOut l).1 ≤ 9999999999 := by
 unfold numOut
 split
 ·simp
 ·rename_i hc
  cases hf : foldD 0 (l.drop (numAt l)) with
  | none => simp
  | some n =>
   have hlt := foldD_lt _ _ _ hf
   have hle : 10 ^ (l.drop (numAt l)).length ≤ 10 ^ 10 := Nat.pow_le_pow_right (by omega) (by rw [List.length_drop]; omega)
   have hn : n < 10000000000 := by
    rw [Nat.zero_add, Nat.one_mul] at hlt
    exact Nat.lt_of_lt_of_le hlt hle
   simp only
   refine ⟨?_, ?_⟩
   ·split <;> omega
   ·split <;> omega
end Go.Proofs.YtjjdlgjofjfgmaaGreatDoor
/-
 The document's reading of a line is package code's: plain laws.
-/
set_option linter.unusedSimpArgs false
set_option linter.unusedVariables false
namespace Go.Proofs.YtjjdlgjofjfgmaaGreatDoor
open Go.RowKit
def docN (k : Int) (ps : List (List UInt8)) : Bool := decide (((k = 1 ∨ k = 2 ∨ k = 3) ∧ ps.length = 2) ∨ (k = 7 ∧ ps.length = 3))
def docI (l : List UInt8) : InstL :=
 let ps := splitL 32 l
 let op := opN (ps.headD [])
 let k := kindL op
 ⟨op, if docN k ps then (numOut (ps.getD 1 [])).1 else 0, if k = 4 ∨ k = 5 ∨ k = 6 then ps.getLastD [] else if k = 7 ∧ ps.length = 3 then ps.getD 2 [] else [], if k = 8 ∧ ps.length = 2 then (refOut (ps.getD 1 [])).1 else noRefL⟩
def docF (l : List UInt8) : Bool :=
 let ps := splitL 32 l
 let k := kindL (opN (ps.headD []))
 if docN k ps then (numOut (ps.getD 1 [])).2 else if k = 8 ∧ ps.length = 2 then decide ((refOut (ps.getD 1 [])).2 = 0) else true
def docW (l : List UInt8) : Nat :=
 let k := kindL (opN ((splitL 32 l).headD []))
 if k = -1 ∨ k = 0 then 1 else if k = 7 then 3 else 2
def docOut (l : List UInt8) : InstL × Int := if (docF l && decide ((splitL 32 l).length = docW l)) && (docI l).ok then (docI l, 0) else (⟨0, 0, [], noRefL⟩, 4)
theorem opL_word (hd : List UInt8) : ∀ k, opL hd k = 0 ∨ wordL ((opL hd k : Nat) : Int) = hd
 | 0 => .inl rfl
 | k + 1 => by
  unfold opL
  split
  ·rename_i h
   exact .inr h.2
  ·exact opL_word hd k
theorem opN_word2 {hd : List UInt8} (h : 1 ≤ opN hd) : wordL ((opN hd : Nat) : Int) = hd := by
 rcases opL_word hd 41 with h1 | h1
 ·unfold opN at h
  omega
 ·exact h1
theorem doc_good {l : List UInt8} (hf : docF l = true) (hw : (splitL 32 l).length = docW l) (hok : (docI l).ok = true) : (docI l).text = l ∧ (docI l).num := by
 obtain ⟨h1, h2, h3, h4⟩ := InstL.ok_ty hok
 have hop : 1 ≤ (docI l).op ∧ (docI l).op ≤ 40 := run_known _ rfl h3
 have hj := join_split 32 l
 have hwd : wordL ((opN ((splitL 32 l).headD []) : Nat) : Int) = (splitL 32 l).headD [] := opN_word2 (by have := hop.1; unfold docI at this; simp only at this; omega)
 refine ⟨?_, ?_⟩
 ·unfold InstL.text
  refine Eq.trans ?_ hj
  congr 1
  unfold InstL.parts
  unfold docI docF docW at *
  simp only at *
  rw [hwd]
  have hkc := kindL_cases ((opN ((splitL 32 l).headD []) : Nat) : Int)
  generalize kindL ((opN ((splitL 32 l).headD []) : Nat) : Int) = k at *
  generalize splitL 32 l = ps at *
  unfold docN at *
  clear hj
  rcases Classical.em (k = -1 ∨ k = 0) with k0 | k0
  ·rw [if_pos k0] at hw
   obtain ⟨x, rfl⟩ : ∃ a, ps = [a] := by match ps, hw with | [a], _ => exact ⟨a, rfl⟩
   have hk : k = 0 := by omega
   subst hk
   simp
  ·rw [if_neg k0] at hw
   rcases Classical.em (k = 7) with k7 | k7
   ·subst k7
    rw [if_pos rfl] at hw
    obtain ⟨x, y, z, rfl⟩ : ∃ a b c, ps = [a, b, c] := by match ps, hw with | [a, b, c], _ => exact ⟨a, b, c, rfl⟩
    simp at hf h2 ⊢
    rw [(numOut_good hf).1]
    exact ⟨rfl, h2⟩
   ·rw [if_neg k7] at hw
    obtain ⟨x, y, rfl⟩ : ∃ a b, ps = [a, b] := by match ps, hw with | [a, b], _ => exact ⟨a, b, rfl⟩
    rcases Classical.em (k = 1 ∨ k = 2 ∨ k = 3) with k1 | k1
    ·have k4 : ¬ (k = 4 ∨ k = 5 ∨ k = 6) := by omega
     have k17 : (k = 1 ∨ k = 2 ∨ k = 3 ∨ k = 7) := by omega
     have k8 : ¬ k = 8 := by omega
     simp [k1, k4, k7, k8, k17] at hf ⊢
     exact (numOut_good hf).1
    ·have k17 : ¬ (k = 1 ∨ k = 2 ∨ k = 3 ∨ k = 7) := by omega
     rcases Classical.em (k = 4 ∨ k = 5 ∨ k = 6) with k4 | k4
     ·have k8 : ¬ k = 8 := by omega
      have k4' : (k = 4 ∨ k = 5 ∨ k = 6 ∨ k = 7) := by omega
      have h2' : ¬ (y = []) := by
       intro hn
       rw [if_pos k4] at h2
       exact (h2.1 hn) k4'
      simp [k1, k4, k7, k8, k17, h2']
     ·by_cases k8 : k = 8
      ·subst k8
       simp at hf ⊢
       exact (refOut_good hf).2
      ·exfalso
       omega
 ·unfold InstL.num docI
  simp only
  split
  ·have := numOut_bad (l := (splitL 32 l).getD 1 [])
   omega
  ·omega
theorem dims_le (l : List UInt8) : (parseRefL l).2.2 = 0 → (parseRefL l).1 ≤ 255 := by
 intro h
 unfold parseRefL at h ⊢
 split at h
 ·rename_i hh
  rw [if_pos hh]
  unfold parseL at h ⊢
  split at h
  ·simp at h
  ·rename_i h2
   rw [if_neg h2]
   split at h
   ·split at h
    ·simp at h
    ·rename_i nm heq h3
     rw [if_neg h3]
     simp only
     omega
   ·simp at h
 ·rename_i hh
  rw [if_neg hh]
  split
  ·simp
  ·split <;> simp
theorem doc_of {i : InstL} (h : i.ok = true) (hn : i.num) : docI i.text = i ∧ docF i.text = true ∧ (splitL 32 i.text).length = docW i.text := by
 obtain ⟨h1, h2, h3, h4⟩ := InstL.ok_ty h
 have hop : 1 ≤ i.op ∧ i.op ≤ 40 := run_known i.op rfl h3
 obtain ⟨hb, hf⟩ := InstL.ok_fine h
 have hw := opN_word ⟨i.op.toNat, by omega⟩ (by show 1 ≤ i.op.toNat; omega)
 simp only at hw
 rw [show ((i.op.toNat : Nat) : Int) = i.op by omega] at hw
 unfold docI docF docW
 rw [text_split h]
 have e0 : (i.parts).headD [] = wordL i.op := by unfold InstL.parts; rfl
 simp only [e0, hw]
 rw [show ((i.op.toNat : Nat) : Int) = i.op by omega]
 obtain ⟨op, n, tx, r⟩ := i
 unfold InstL.bare at hb
 unfold InstL.fine at hf
 unfold InstL.parts docN
 simp only at h1 h2 h3 h4 hop hb hf ⊢
 have hkc := kindL_cases op
 generalize kindL op = k at *
 have ha : (k = 1 ∨ k = 2 ∨ k = 3 ∨ k = 7) → numOut (Lib.itoa n) = (n, true) := by
  intro hk
  have hr := fun h0 h1 => numOut_itoa n h0 h1
  have hd := fun h => dims_le tx h
  unfold withinB at hf
  rcases hk with rfl | rfl | rfl | rfl
  ·simp at hf
   exact hr (by omega) (by omega)
  ·simp at hf
   exact hr (by omega) (by omega)
  ·simp at hf
   exact hr (by omega) (by omega)
  ·simp at hf
   have := hd hf.1
   exact hr (by omega) (by omega)
 rcases Classical.em (k = 1 ∨ k = 2 ∨ k = 3) with k1 | k1
 ·have k7 : k = 1 ∨ k = 2 ∨ k = 3 ∨ k = 7 := by omega
  have k4 : ¬ (k = 4 ∨ k = 5 ∨ k = 6 ∨ k = 7) := by omega
  have k5 : ¬ (k = 4 ∨ k = 5 ∨ k = 6) := by omega
  have k8 : ¬ k = 8 := by omega
  have k9 : ¬ k = 7 := by omega
  have k0 : ¬ (k = -1 ∨ k = 0) := by omega
  have htx : tx = [] := h2.2 k4
  rw [if_pos k1] at hb
  simp only [InstL.mk.injEq, true_and] at hb
  simp [k1, k7, k4, k5, k8, k9, k0, htx, ha k7]
  exact hb.2
 ·rw [if_neg k1] at hb
  rcases Classical.em (k = 4 ∨ k = 5 ∨ k = 6) with k4 | k4
  ·rw [if_pos k4] at hb
   have k4' : k = 4 ∨ k = 5 ∨ k = 6 ∨ k = 7 := by omega
   have k7 : ¬ (k = 1 ∨ k = 2 ∨ k = 3 ∨ k = 7) := by omega
   have k8 : ¬ k = 8 := by omega
   have k9 : ¬ k = 7 := by omega
   have k0 : ¬ (k = -1 ∨ k = 0) := by omega
   have htx : ¬ tx = [] := fun e => (h2.1 e) k4'
   simp only [InstL.mk.injEq, true_and] at hb
   simp [k1, k4, k7, k8, k9, k0, htx]
   exact ⟨hb.1, hb.2⟩
  ·rw [if_neg k4] at hb
   by_cases k7 : k = 7
   ·subst k7
    have htx : ¬ tx = [] := fun e => (h2.1 e) (by omega)
    simp at hb
    simp [htx, ha (by omega)]
    exact hb
   ·rw [if_neg k7] at hb
    have k7' : ¬ (k = 1 ∨ k = 2 ∨ k = 3 ∨ k = 7) := by omega
    have k4' : ¬ (k = 4 ∨ k = 5 ∨ k = 6 ∨ k = 7) := by omega
    have htx : tx = [] := h2.2 k4'
    by_cases k8 : k = 8
    ·subst k8
     have hr := refOut_ok (h4 rfl)
     simp at hb
     simp [htx, hr]
     exact hb.1
    ·rw [if_neg k8] at hb
     have k0 : k = -1 ∨ k = 0 := by omega
     simp only [InstL.mk.injEq, true_and] at hb
     simp [k1, k4, k7, k7', k8, k0, htx]
     exact ⟨hb.1, hb.2.2⟩
theorem docOut_eq (l : List UInt8) : docOut l = parseOut l := by
 by_cases hd : ((docF l && decide ((splitL 32 l).length = docW l)) && (docI l).ok) = true
 ·have hd2 := hd
  simp only [Bool.and_eq_true, decide_eq_true_eq] at hd2
  obtain ⟨⟨h1, h2⟩, h3⟩ := hd2
  obtain ⟨h4, h5⟩ := doc_good h1 h2 h3
  have h6 := parseOut_text h3 h5
  rw [h4] at h6
  unfold docOut
  rw [if_pos hd, h6]
 ·have e : docOut l = (⟨0, 0, [], noRefL⟩, 4) := by unfold docOut; rw [if_neg hd]
  by_cases hp : (parseOut l).2 = 0
  ·obtain ⟨h1, h2, h3⟩ := parseOut_good hp
   have hnum : (parseOut l).1.num := by
    rw [h3]
    unfold InstL.num parseJ
    simp only
    split
    ·exact atoiV_bd _
    ·omega
   obtain ⟨h4, h5, h6⟩ := doc_of h1 hnum
   rw [h2] at h4 h5 h6
   exact absurd (by rw [h5, h6, h4, h1]; simp) hd
  ·rw [e, parseOut_bad hp]
end Go.Proofs.YtjjdlgjofjfgmaaGreatDoor
/-
 The document's Parse of a line, walked.
-/
set_option linter.unusedSimpArgs false
set_option linter.unusedVariables false
namespace Go.Proofs.YtjjdlgjofjfgmaaGreatDoor
open Go.RowKit Go.Sort
theorem getD_le {c : UInt8} (l : List UInt8) (k : Nat) : ((splitL c l).getD k []).length ≤ l.length := by
 rw [List.getD_eq_getElem?_getD]
 by_cases h : k < (splitL c l).length
 ·rw [List.getElem?_eq_getElem h]
  exact splitL_le c l _ (List.getElem_mem h)
 ·rw [List.getElem?_eq_none (by omega)]
  simp
theorem docI_fit (l : List UInt8) (hl : l.length ≤ 9000000000000) : (docI l).fit := by
 obtain ⟨h1, h2⟩ := splitL_lens l hl
 have h3 := h1 _ (getLastD_mem [] _ h2)
 have h4 := getD_le (c := 32) l 2
 have h5 := getD_le (c := 32) l 1
 unfold docI
 simp only
 refine ⟨?_, ?_⟩
 ·simp only
  split
  ·omega
  ·split
   ·omega
   ·simp
 ·simp only
  split
  ·exact refOut_fit _ (by omega)
  ·simp [RefL.fit, noRefL]
set_option maxHeartbeats 16000000 in
set_option maxRecDepth 1000000 in
theorem parseRI_any (l : List UInt8) (w : World) (hl : l.length ≤ 100000000) : Calls Tryz.prog 19 #[.string (bs l)] w fun e w' => e = .returned (.tuple #[(docOut l).1.v, .int .i64 (docOut l).2]) ∧ Upd w w' [] := by
 have Hcut := fun w => hid (cutR_any 32 l w hl)
 have HO : Hid (docOut l = if (docF l && decide ((splitL 32 l).length = docW l)) && (docI l).ok then (docI l, 0) else (⟨0, 0, [], noRefL⟩, 4)) := hid rfl
 have HI : Hid (docI l = ⟨opN ((splitL 32 l).headD []), if docN (kindL (opN ((splitL 32 l).headD []))) (splitL 32 l) then (numOut ((splitL 32 l).getD 1 [])).1 else 0, if kindL (opN ((splitL 32 l).headD [])) = 4 ∨ kindL (opN ((splitL 32 l).headD [])) = 5 ∨ kindL (opN ((splitL 32 l).headD [])) = 6 then (splitL 32 l).getLastD [] else if kindL (opN ((splitL 32 l).headD [])) = 7 ∧ (splitL 32 l).length = 3 then (splitL 32 l).getD 2 [] else [], if kindL (opN ((splitL 32 l).headD [])) = 8 ∧ (splitL 32 l).length = 2 then (refOut ((splitL 32 l).getD 1 [])).1 else noRefL⟩) := hid rfl
 have HF : Hid (docF l = if docN (kindL (opN ((splitL 32 l).headD []))) (splitL 32 l) then (numOut ((splitL 32 l).getD 1 [])).2 else if kindL (opN ((splitL 32 l).headD [])) = 8 ∧ (splitL 32 l).length = 2 then decide ((refOut ((splitL 32 l).getD 1 [])).2 = 0) else true) := hid rfl
 have HW : Hid (docW l = if kindL (opN ((splitL 32 l).headD [])) = -1 ∨ kindL (opN ((splitL 32 l).headD [])) = 0 then 1 else if kindL (opN ((splitL 32 l).headD [])) = 7 then 3 else 2) := hid rfl
 have hfit := docI_fit l (by omega)
 have Hck := fun w => hid (checkR_any (docI l) w hfit)
 unfold checkPost at Hck
 have hlens := splitL_lens l (by omega)
 have hg1 := getD_le (c := 32) l 1
 have hg2 := getD_le (c := 32) l 2
 have hcnt : (splitL 32 l).length ≤ 100000001 := by
  rw [splitL_length]
  have := List.count_le_length (a := (32 : UInt8)) (l := l)
  omega
 clear hfit
 generalize docOut l = PO at HO ⊢
 generalize docI l = J at HI HO Hck
 generalize docF l = F at HF HO
 generalize docW l = W at HW HO
 generalize splitL 32 l = ps at *
 obtain ⟨hpl, hne⟩ := hlens
 have hpos : 0 < ps.length := by
  cases ps with
  | nil => exact absurd rfl hne
  | cons a t => simp
 have Hhd : Hid (ps[0]'hpos = ps.headD []) := hid (by cases ps with
  | nil => exact absurd rfl hne
  | cons a t => rfl)
 have Hla : Hid (ps[ps.length - 1]'(by omega) = ps.getLastD []) := hid (by rw [List.getLastD_eq_getLast?, List.getLast?_eq_getElem?, List.getElem?_eq_getElem (by omega)]; rfl)
 have Hp1 : Hid (∀ h : 1 < ps.length, ps[1]'h = ps.getD 1 []) := hid (fun h => by rw [List.getD_eq_getElem?_getD, List.getElem?_eq_getElem h]; rfl)
 have Hp2 : Hid (∀ h : 2 < ps.length, ps[2]'h = ps.getD 2 []) := hid (fun h => by rw [List.getD_eq_getElem?_getD, List.getElem?_eq_getElem h]; rfl)
 obtain ⟨lastP, hlp⟩ : ∃ x, ps.getLastD [] = x := ⟨_, rfl⟩
 obtain ⟨hd, hhd⟩ : ∃ x, ps.headD [] = x := ⟨_, rfl⟩
 obtain ⟨p1, hp1⟩ : ∃ x, ps.getD 1 [] = x := ⟨_, rfl⟩
 obtain ⟨p2, hp2⟩ : ∃ x, ps.getD 2 [] = x := ⟨_, rfl⟩
 rw [hlp] at HI Hla
 rw [hhd] at HI HF HW Hhd
 rw [hp1] at HI HF Hp1 hg1
 rw [hp2] at HI Hp2 hg2
 obtain ⟨op, hopn⟩ : ∃ o, opN hd = o := ⟨_, rfl⟩
 rw [hopn] at HI HF HW
 have Hop := hid hopn
 clear hpl hne hlp hhd hp1 hp2 hopn
 go_enter Tryz.func19, Tryz.ntmps19
 have hU0 : Upd w (w.alloc (.cells zeroI 41)) [] := (Upd.refl _ _).alloc _
 unfold zeroI at hU0
 go_wp2_with fail
 refine (Hcut _).out.mono ?_
 rintro e w1 ⟨g, cap, rfl, hown, hgw, hU⟩
 have hU1 := hU0.trans hU
 have HB2 := hid (hU.blk (Blk.new w 41 zeroI) (by simp))
 have HU1 := hid hU1
 have hc := fun i (hi : i < ps.length) => own_cell hown i hi
 have hlt1 : g < w1.heap.size := by
  have h := hc 0 hpos
  rw [List.getElem?_map, List.getElem?_eq_getElem hpos] at h
  simp only [Option.map_some] at h
  unfold World.cell? at h
  by_cases hh : g < w1.heap.size
  ·exact hh
  ·rw [Array.getElem?_eq_none (by simpa using hh)] at h
   simp at h
 have hcl : ∀ i (hi : i < ps.length), w1.cell? ⟨g, i, none⟩ = some (.string (bs ps[i])) := fun i hi => by
  rw [hc i hi, List.getElem?_map, List.getElem?_eq_getElem hi]
  rfl
 have HC1 := hid hcl
 have hz1 : w.heap.size < w1.heap.size := HB2.out.lt
 clear hown hU hU0 hU1 hc hcl hgw
 have x0 := HC1.out 0 hpos
 rw [Hhd.out] at x0
 have hposI : (0 : Int) < ps.length := by omega
 go_wp2_with fail
 refine (op_any hd _).mono ?_
 rintro e w2 ⟨rfl, hU2⟩
 rw [Hop.out]
 have HB5 := hid (Blk.new w2 41 (opI op))
 have hU3 := hU2.trans ((Upd.refl w2 []).alloc (.cells (opI op) 41))
 have HU3 := hid hU3
 have HB3 := hid (hU3.blk HB2.out (by simp))
 have HC3 : Hid (∀ i (hi : i < ps.length), (w2.alloc (.cells (opI op) 41)).cell? ⟨g, i, none⟩ = some (.string (bs ps[i]))) := hid (fun i hi => by rw [hU3.cells.1 g i hlt1]; exact HC1.out i hi)
 have hz2 : w1.heap.size ≤ w2.heap.size := hU2.size
 clear hU2 hU3 x0
 unfold opI at HB5 HU3 HB3 HC3
 have Hopr : ∀ w, Hid (Calls Tryz.prog 59 #[.int .i64 (op : Int)] w fun e w' => e = .returned (.int .i64 (kindL (op : Int))) ∧ Upd w w' []) := fun w => hid ((operandR_any (op : Int) w).mono (fun e w' h => ⟨h.1, by rw [← h.2]; exact Upd.refl _ _⟩))
 obtain ⟨kk, hkk⟩ : ∃ kk, kindL (op : Int) = kk := ⟨_, rfl⟩
 have hkc := kindL_cases (op : Int)
 rw [hkk] at Hopr HI HF HW hkc
 clear hkk
 go_wp2_with fail
 refine (Hopr _).out.mono ?_
 rintro e w5 ⟨rfl, hU5⟩
 have HB6 := hid (hU5.blk HB5.out (by simp))
 have HC6 : Hid (∀ i (hi : i < ps.length), w5.cell? ⟨g, i, none⟩ = some (.string (bs ps[i]))) := hid (fun i hi => by rw [hU5.cells.1 g i (by simp; omega)]; exact HC3.out i hi)
 have HU5 := hid (HU3.out.trans hU5)
 have hz5 : w2.heap.size < w5.heap.size := HB6.out.lt
 clear hU5 HB5 HC3 HU3 HB3 Hopr
 go_upto_block 0 with (fail)
 go_cut [6, 7] (fun t6 t7 wx => t6 = .bool F ∧ t7 = .int .i64 (W : Int) ∧ Hid (Blk wx w2.heap.size 41 J.cells) ∧ Upd w1 wx [])
 case first =>
  have c0 := HB6.out.cell 0
  have c1 := HB6.out.cell 1
  have c2 := HB6.out.cell 2
  have c3 := HB6.out.cell 3
  have c4 := HB6.out.cell 4
  have c5 := HB6.out.cell 5
  have c6 := HB6.out.cell 6
  have f1 := HB6.out.frozen 1
  have f2 := HB6.out.frozen 2
  have f3 := HB6.out.frozen 3
  have f4 := HB6.out.frozen 4
  have f5 := HB6.out.frozen 5
  have f6 := HB6.out.frozen 6
  simp at c0 c1 c2 c3 c4 c5 c6
  rcases hkc with rfl | rfl | rfl | rfl | rfl | rfl | rfl | rfl | rfl | rfl
  ·have HJ2 : Hid (J = ⟨op, 0, [], noRefL⟩) := hid (by rw [HI.out]; simp [docN])
   have HF2 : Hid (F = true) := hid (by rw [HF.out]; simp [docN])
   have HW2 : Hid (W = 1) := hid (by rw [HW.out]; simp)
   clear HI HF HW
   go_wp2
   go_meet
   refine ⟨by rw [HF2.out], by rw [HW2.out]; rfl, hid ?_, ?_⟩
   ·rw [HJ2.out]
    exact HB6.out
   ·exact HU5.out
  ·have HJ2 : Hid (J = ⟨op, 0, [], noRefL⟩) := hid (by rw [HI.out]; simp [docN])
   have HF2 : Hid (F = true) := hid (by rw [HF.out]; simp [docN])
   have HW2 : Hid (W = 1) := hid (by rw [HW.out]; simp)
   clear HI HF HW
   go_wp2
   go_meet
   refine ⟨by rw [HF2.out], by rw [HW2.out]; rfl, hid ?_, ?_⟩
   ·rw [HJ2.out]
    exact HB6.out
   ·exact HU5.out
  ·by_cases hlen : ps.length = 2
   ·have HJ2 : Hid (J = ⟨op, (numOut p1).1, [], noRefL⟩) := hid (by rw [HI.out]; simp [docN, hlen])
    have HF2 : Hid (F = (numOut p1).2) := hid (by rw [HF.out]; simp [docN, hlen])
    have HW2 : Hid (W = 2) := hid (by rw [HW.out]; simp)
    clear HI HF HW
    have hlb : ((ps.length : Int) == 2) = true := by rw [hlen]; rfl
    have hln : (ps.length == 2) = true := by rw [hlen]; rfl
    have hi1 : (1 : Int) < ps.length := by omega
    have hx1 := HC6.out 1 (by omega)
    rw [Hp1.out (by omega)] at hx1
    have hglt : g < w5.heap.size := by omega
    clear hlen
    go_wp2_with fail
    refine (number_any p1 _ (by omega)).mono ?_
    rintro e w6 ⟨rfl, hU6⟩
    have hB7 := hU6.blk HB6.out (by simp)
    have d1 := hB7.cell 1
    have h1 := hB7.frozen 1
    simp at d1
    have HB7 := hid hB7
    have HU6 := hid (HU5.out.trans hU6)
    have hz6 : w2.heap.size < w6.heap.size := hB7.lt
    clear hB7 hU6 c0 c1 c2 c3 c4 c5 c6 f1 f2 f3 f4 f5 f6
    go_wp2
    go_meet
    refine ⟨by rw [HF2.out], by rw [HW2.out]; rfl, hid ?_, ?_⟩
    ·rw [HJ2.out]
     exact HB7.out.set_ 1 (.int .i64 (numOut p1).1)
    ·exact HU6.out.setCell (p := ⟨w2.heap.size, 1, none⟩) (.inr (by omega)) _
   ·have HJ2 : Hid (J = ⟨op, 0, [], noRefL⟩) := hid (by rw [HI.out]; simp [docN, hlen])
    have HF2 : Hid (F = true) := hid (by rw [HF.out]; simp [docN, hlen])
    have HW2 : Hid (W = 2) := hid (by rw [HW.out]; simp)
    clear HI HF HW
    have hlb : ((ps.length : Int) == 2) = false := by rw [beq_eq_false_iff_ne]; omega
    have hln : (ps.length == 2) = false := by rw [beq_eq_false_iff_ne]; exact hlen
    have hli : ¬ (ps.length : Int) = 2 := by omega
    clear hlen
    go_wp2
    go_meet
    refine ⟨by rw [HF2.out], by rw [HW2.out]; rfl, hid ?_, ?_⟩
    ·rw [HJ2.out]
     exact HB6.out
    ·exact HU5.out
  ·by_cases hlen : ps.length = 2
   ·have HJ2 : Hid (J = ⟨op, (numOut p1).1, [], noRefL⟩) := hid (by rw [HI.out]; simp [docN, hlen])
    have HF2 : Hid (F = (numOut p1).2) := hid (by rw [HF.out]; simp [docN, hlen])
    have HW2 : Hid (W = 2) := hid (by rw [HW.out]; simp)
    clear HI HF HW
    have hlb : ((ps.length : Int) == 2) = true := by rw [hlen]; rfl
    have hln : (ps.length == 2) = true := by rw [hlen]; rfl
    have hi1 : (1 : Int) < ps.length := by omega
    have hx1 := HC6.out 1 (by omega)
    rw [Hp1.out (by omega)] at hx1
    have hglt : g < w5.heap.size := by omega
    clear hlen
    go_wp2_with fail
    refine (number_any p1 _ (by omega)).mono ?_
    rintro e w6 ⟨rfl, hU6⟩
    have hB7 := hU6.blk HB6.out (by simp)
    have d1 := hB7.cell 1
    have h1 := hB7.frozen 1
    simp at d1
    have HB7 := hid hB7
    have HU6 := hid (HU5.out.trans hU6)
    have hz6 : w2.heap.size < w6.heap.size := hB7.lt
    clear hB7 hU6 c0 c1 c2 c3 c4 c5 c6 f1 f2 f3 f4 f5 f6
    go_wp2
    go_meet
    refine ⟨by rw [HF2.out], by rw [HW2.out]; rfl, hid ?_, ?_⟩
    ·rw [HJ2.out]
     exact HB7.out.set_ 1 (.int .i64 (numOut p1).1)
    ·exact HU6.out.setCell (p := ⟨w2.heap.size, 1, none⟩) (.inr (by omega)) _
   ·have HJ2 : Hid (J = ⟨op, 0, [], noRefL⟩) := hid (by rw [HI.out]; simp [docN, hlen])
    have HF2 : Hid (F = true) := hid (by rw [HF.out]; simp [docN, hlen])
    have HW2 : Hid (W = 2) := hid (by rw [HW.out]; simp)
    clear HI HF HW
    have hlb : ((ps.length : Int) == 2) = false := by rw [beq_eq_false_iff_ne]; omega
    have hln : (ps.length == 2) = false := by rw [beq_eq_false_iff_ne]; exact hlen
    have hli : ¬ (ps.length : Int) = 2 := by omega
    clear hlen
    go_wp2
    go_meet
    refine ⟨by rw [HF2.out], by rw [HW2.out]; rfl, hid ?_, ?_⟩
    ·rw [HJ2.out]
     exact HB6.out
    ·exact HU5.out
  ·by_cases hlen : ps.length = 2
   ·have HJ2 : Hid (J = ⟨op, (numOut p1).1, [], noRefL⟩) := hid (by rw [HI.out]; simp [docN, hlen])
    have HF2 : Hid (F = (numOut p1).2) := hid (by rw [HF.out]; simp [docN, hlen])
    have HW2 : Hid (W = 2) := hid (by rw [HW.out]; simp)
    clear HI HF HW
    have hlb : ((ps.length : Int) == 2) = true := by rw [hlen]; rfl
    have hln : (ps.length == 2) = true := by rw [hlen]; rfl
    have hi1 : (1 : Int) < ps.length := by omega
    have hx1 := HC6.out 1 (by omega)
    rw [Hp1.out (by omega)] at hx1
    have hglt : g < w5.heap.size := by omega
    clear hlen
    go_wp2_with fail
    refine (number_any p1 _ (by omega)).mono ?_
    rintro e w6 ⟨rfl, hU6⟩
    have hB7 := hU6.blk HB6.out (by simp)
    have d1 := hB7.cell 1
    have h1 := hB7.frozen 1
    simp at d1
    have HB7 := hid hB7
    have HU6 := hid (HU5.out.trans hU6)
    have hz6 : w2.heap.size < w6.heap.size := hB7.lt
    clear hB7 hU6 c0 c1 c2 c3 c4 c5 c6 f1 f2 f3 f4 f5 f6
    go_wp2
    go_meet
    refine ⟨by rw [HF2.out], by rw [HW2.out]; rfl, hid ?_, ?_⟩
    ·rw [HJ2.out]
     exact HB7.out.set_ 1 (.int .i64 (numOut p1).1)
    ·exact HU6.out.setCell (p := ⟨w2.heap.size, 1, none⟩) (.inr (by omega)) _
   ·have HJ2 : Hid (J = ⟨op, 0, [], noRefL⟩) := hid (by rw [HI.out]; simp [docN, hlen])
    have HF2 : Hid (F = true) := hid (by rw [HF.out]; simp [docN, hlen])
    have HW2 : Hid (W = 2) := hid (by rw [HW.out]; simp)
    clear HI HF HW
    have hlb : ((ps.length : Int) == 2) = false := by rw [beq_eq_false_iff_ne]; omega
    have hln : (ps.length == 2) = false := by rw [beq_eq_false_iff_ne]; exact hlen
    have hli : ¬ (ps.length : Int) = 2 := by omega
    clear hlen
    go_wp2
    go_meet
    refine ⟨by rw [HF2.out], by rw [HW2.out]; rfl, hid ?_, ?_⟩
    ·rw [HJ2.out]
     exact HB6.out
    ·exact HU5.out
  ·have HJ2 : Hid (J = ⟨op, 0, lastP, noRefL⟩) := hid (by rw [HI.out]; simp [docN])
   have HF2 : Hid (F = true) := hid (by rw [HF.out]; simp [docN])
   have HW2 : Hid (W = 2) := hid (by rw [HW.out]; simp)
   clear HI HF HW
   have hw1 : wrap64 ((ps.length : Int) - 1) = (ps.length : Int) - 1 := by unfold wrap64; omega
   have hn1 : ((ps.length : Int) - 1).toNat = ps.length - 1 := by omega
   have hn2 : (0 : Int) ≤ (ps.length : Int) - 1 := by omega
   have hn3 : (1 : Int) ≤ (ps.length : Int) := by omega
   have hn4 : (ps.length : Int) - 1 < (ps.length : Int) := by omega
   have hx1 := HC6.out (ps.length - 1) (by omega)
   rw [Hla.out] at hx1
   go_wp2
   go_meet
   refine ⟨by rw [HF2.out], by rw [HW2.out]; rfl, hid ?_, ?_⟩
   ·rw [HJ2.out]
    exact HB6.out.set_ 2 (.string (bs lastP))
   ·exact HU5.out.setCell (p := ⟨w2.heap.size, 2, none⟩) (.inr (by omega)) _
  ·have HJ2 : Hid (J = ⟨op, 0, lastP, noRefL⟩) := hid (by rw [HI.out]; simp [docN])
   have HF2 : Hid (F = true) := hid (by rw [HF.out]; simp [docN])
   have HW2 : Hid (W = 2) := hid (by rw [HW.out]; simp)
   clear HI HF HW
   have hw1 : wrap64 ((ps.length : Int) - 1) = (ps.length : Int) - 1 := by unfold wrap64; omega
   have hn1 : ((ps.length : Int) - 1).toNat = ps.length - 1 := by omega
   have hn2 : (0 : Int) ≤ (ps.length : Int) - 1 := by omega
   have hn3 : (1 : Int) ≤ (ps.length : Int) := by omega
   have hn4 : (ps.length : Int) - 1 < (ps.length : Int) := by omega
   have hx1 := HC6.out (ps.length - 1) (by omega)
   rw [Hla.out] at hx1
   go_wp2
   go_meet
   refine ⟨by rw [HF2.out], by rw [HW2.out]; rfl, hid ?_, ?_⟩
   ·rw [HJ2.out]
    exact HB6.out.set_ 2 (.string (bs lastP))
   ·exact HU5.out.setCell (p := ⟨w2.heap.size, 2, none⟩) (.inr (by omega)) _
  ·have HJ2 : Hid (J = ⟨op, 0, lastP, noRefL⟩) := hid (by rw [HI.out]; simp [docN])
   have HF2 : Hid (F = true) := hid (by rw [HF.out]; simp [docN])
   have HW2 : Hid (W = 2) := hid (by rw [HW.out]; simp)
   clear HI HF HW
   have hw1 : wrap64 ((ps.length : Int) - 1) = (ps.length : Int) - 1 := by unfold wrap64; omega
   have hn1 : ((ps.length : Int) - 1).toNat = ps.length - 1 := by omega
   have hn2 : (0 : Int) ≤ (ps.length : Int) - 1 := by omega
   have hn3 : (1 : Int) ≤ (ps.length : Int) := by omega
   have hn4 : (ps.length : Int) - 1 < (ps.length : Int) := by omega
   have hx1 := HC6.out (ps.length - 1) (by omega)
   rw [Hla.out] at hx1
   go_wp2
   go_meet
   refine ⟨by rw [HF2.out], by rw [HW2.out]; rfl, hid ?_, ?_⟩
   ·rw [HJ2.out]
    exact HB6.out.set_ 2 (.string (bs lastP))
   ·exact HU5.out.setCell (p := ⟨w2.heap.size, 2, none⟩) (.inr (by omega)) _
  ·by_cases hlen : ps.length = 3
   ·have HJ2 : Hid (J = ⟨op, (numOut p1).1, p2, noRefL⟩) := hid (by rw [HI.out]; simp [docN, hlen])
    have HF2 : Hid (F = (numOut p1).2) := hid (by rw [HF.out]; simp [docN, hlen])
    have HW2 : Hid (W = 3) := hid (by rw [HW.out]; simp)
    clear HI HF HW
    have hlb : ((ps.length : Int) == 3) = true := by rw [hlen]; rfl
    have hln : (ps.length == 3) = true := by rw [hlen]; rfl
    have hi1 : (1 : Int) < ps.length := by omega
    have hi2 : (2 : Int) < ps.length := by omega
    have hx1 := HC6.out 1 (by omega)
    rw [Hp1.out (by omega)] at hx1
    have hx2 := HC6.out 2 (by omega)
    rw [Hp2.out (by omega)] at hx2
    have hglt : g < w5.heap.size := by omega
    have hgne : ¬ g = w2.heap.size := by omega
    clear hlen
    go_wp2_with fail
    refine (number_any p1 _ (by omega)).mono ?_
    rintro e w6 ⟨rfl, hU6⟩
    have hB7 := hU6.blk HB6.out (by simp)
    have d1 := hB7.cell 1
    have h1 := hB7.frozen 1
    have d2 := hB7.cell 2
    have h2 := hB7.frozen 2
    simp at d1 d2
    have hx3 : w6.cell? ⟨g, 2, none⟩ = some (.string (bs p2)) := by rw [hU6.cells.1 g 2 hglt]; exact hx2
    have HB7 := hid hB7
    have HU6 := hid (HU5.out.trans hU6)
    have hz6 : w2.heap.size < w6.heap.size := hB7.lt
    clear hB7 hU6 c0 c1 c2 c3 c4 c5 c6 f1 f2 f3 f4 f5 f6 hx1 hx2
    go_wp2
    go_meet
    refine ⟨by rw [HF2.out], by rw [HW2.out]; rfl, hid ?_, ?_⟩
    ·rw [HJ2.out]
     exact (HB7.out.set_ 1 (.int .i64 (numOut p1).1)).set_ 2 (.string (bs p2))
    ·exact (HU6.out.setCell (p := ⟨w2.heap.size, 1, none⟩) (.inr (by omega)) _).setCell (p := ⟨w2.heap.size, 2, none⟩) (.inr (by omega)) _
   ·have HJ2 : Hid (J = ⟨op, 0, [], noRefL⟩) := hid (by rw [HI.out]; simp [docN, hlen])
    have HF2 : Hid (F = true) := hid (by rw [HF.out]; simp [docN, hlen])
    have HW2 : Hid (W = 3) := hid (by rw [HW.out]; simp)
    clear HI HF HW
    have hlb : ((ps.length : Int) == 3) = false := by rw [beq_eq_false_iff_ne]; omega
    have hln : (ps.length == 3) = false := by rw [beq_eq_false_iff_ne]; exact hlen
    have hli : ¬ (ps.length : Int) = 3 := by omega
    clear hlen
    go_wp2
    go_meet
    refine ⟨by rw [HF2.out], by rw [HW2.out]; rfl, hid ?_, ?_⟩
    ·rw [HJ2.out]
     exact HB6.out
    ·exact HU5.out
  ·by_cases hlen : ps.length = 2
   ·have HJ2 : Hid (J = ⟨op, 0, [], (refOut p1).1⟩) := hid (by rw [HI.out]; simp [docN, hlen])
    have HF2 : Hid (F = decide ((refOut p1).2 = 0)) := hid (by rw [HF.out]; simp [docN, hlen])
    have HW2 : Hid (W = 2) := hid (by rw [HW.out]; simp)
    clear HI HF HW
    have hlb : ((ps.length : Int) == 2) = true := by rw [hlen]; rfl
    have hln : (ps.length == 2) = true := by rw [hlen]; rfl
    have hi1 : (1 : Int) < ps.length := by omega
    have hx1 := HC6.out 1 (by omega)
    rw [Hp1.out (by omega)] at hx1
    have hglt : g < w5.heap.size := by omega
    have Hrf := fun w => hid (parseRefTextR_any p1 w (by omega))
    rw [docRefOut_eq] at Hrf
    obtain ⟨ro, hro⟩ : ∃ ro, refOut p1 = ro := ⟨_, rfl⟩
    rw [hro] at Hrf HJ2 HF2
    clear hro hlen
    obtain ⟨⟨ic, rc, rn, rd⟩, re⟩ := ro
    unfold RefL.v at Hrf
    simp only at Hrf HJ2 HF2
    go_wp2_with fail
    refine (Hrf _).out.mono ?_
    rintro e w6 ⟨rfl, hU6⟩
    have hB7 := hU6.blk HB6.out (by simp)
    have d3 := hB7.cell 3
    have d4 := hB7.cell 4
    have d5 := hB7.cell 5
    have d6 := hB7.cell 6
    have h3 := hB7.frozen 3
    have h4 := hB7.frozen 4
    have h5 := hB7.frozen 5
    have h6 := hB7.frozen 6
    simp at d3 d4 d5 d6
    have hz6 : w2.heap.size < w6.heap.size := hB7.lt
    have HB7 := hid hB7
    have HU6 := hid (HU5.out.trans hU6)
    have hne6 : ¬ w2.heap.size = w6.heap.size := by omega
    have hne7 : ¬ w6.heap.size = w2.heap.size := by omega
    clear hB7 hU6 c0 c1 c2 c3 c4 c5 c6 f1 f2 f3 f4 f5 f6
    go_wp2
    go_meet
    refine ⟨by rw [HF2.out]; rfl, by rw [HW2.out]; rfl, hid ?_, ?_⟩
    ·rw [HJ2.out]
     exact ((((HB7.out.set_ 3 (.bool ic)).set_ 4 (.string (bs rc))).set_ 5 (.string (bs rn))).set_ 6 (.string (bs rd))).alloc _
    ·exact ((((HU6.out.setCell (.inr (by show w1.heap.size ≤ w2.heap.size; omega)) _).setCell (.inr (by show w1.heap.size ≤ w2.heap.size; omega)) _).setCell (.inr (by show w1.heap.size ≤ w2.heap.size; omega)) _).setCell (.inr (by show w1.heap.size ≤ w2.heap.size; omega)) _).alloc _
   ·have HJ2 : Hid (J = ⟨op, 0, [], noRefL⟩) := hid (by rw [HI.out]; simp [docN, hlen])
    have HF2 : Hid (F = true) := hid (by rw [HF.out]; simp [docN, hlen])
    have HW2 : Hid (W = 2) := hid (by rw [HW.out]; simp)
    clear HI HF HW
    have hlb : ((ps.length : Int) == 2) = false := by rw [beq_eq_false_iff_ne]; omega
    have hln : (ps.length == 2) = false := by rw [beq_eq_false_iff_ne]; exact hlen
    have hli : ¬ (ps.length : Int) = 2 := by omega
    clear hlen
    go_wp2
    go_meet
    refine ⟨by rw [HF2.out], by rw [HW2.out]; rfl, hid ?_, ?_⟩
    ·rw [HJ2.out]
     exact HB6.out
    ·exact HU5.out
 case rest =>
  obtain ⟨rfl, rfl, hBJ, hUJ⟩ := hcut
  have HR0 := hid (hUJ.blk HB2.out (by simp))
  have HUW0 := hid (HU1.out.trans hUJ)
  obtain ⟨jo, jn, jt, ⟨ic, rc, rn, rd⟩⟩ := J
  unfold InstL.v InstL.cells at Hck
  unfold InstL.cells at hBJ
  simp only at Hck hBJ
  obtain ⟨ok, hok⟩ : ∃ b, (InstL.mk jo jn jt ⟨ic, rc, rn, rd⟩).ok = b := ⟨_, rfl⟩
  rw [hok] at Hck HO
  clear hok HI HF HW HU5 HB6 HC6 HC1 HB2 HU1 hUJ
  have hzw : w.heap.size < wc.heap.size := HR0.out.lt
  have hz2c : w2.heap.size < wc.heap.size := hBJ.out.lt
  cases F with
  | false =>
   have HR := HR0
   have HUW := HUW0
   have HP : Hid (PO = (⟨0, 0, [], noRefL⟩, 4)) := hid (by rw [HO.out]; simp)
   clear HO
   go_upto_region 29 with (fail)
   apply wp_region_lit
   refine wpList_build rfl 41 #[] rfl (by kernel_rfl) ?_
   refine wpList_store_row rfl 41 _ _ rfl w.heap.size zeroI (by kernel_rfl) (by kernel_rfl) 41 zeroI HR.out sizeInst rfl (by kernel_rfl) ?_
   have HB9 := hid (setRow_blk HR.out zeroI)
   have HU9 := hid (setRow_upd HUW.out (Nat.le_refl _) zeroI)
   revert HB9 HU9
   generalize World.setRow _ w.heap.size zeroI = w9
   intro HB9 HU9
   have g0 := HB9.out.cell 0
   have g1 := HB9.out.cell 1
   have g2 := HB9.out.cell 2
   have g3 := HB9.out.cell 3
   have g4 := HB9.out.cell 4
   have g5 := HB9.out.cell 5
   have g6 := HB9.out.cell 6
   simp [zeroI] at g0 g1 g2 g3 g4 g5 g6
   go_wp2_with fail
   refine bodyPost_ret (v := .tuple #[.agg #[.int .i64 0, .int .i64 0, .string ⟨#[]⟩, .bool false, .string ⟨#[]⟩, .string ⟨#[]⟩, .string ⟨#[]⟩], .int .i64 4]) (by simp [results, Tryz.results19, go_sem, g0, g1, g2, g3, g4, g5, g6]) rfl ?_
   rw [HP.out]
   exact ⟨rfl, HU9.out⟩
  | true =>
   by_cases hW : ps.length = W
   ·have hWb : ((ps.length : Int) != (W : Int)) = false := by rw [hW]; simp
    have hWn : (ps.length != W) = false := by rw [hW]; simp
    have hO2 : Hid (PO = if ok then (⟨jo, jn, jt, ⟨ic, rc, rn, rd⟩⟩, 0) else (⟨0, 0, [], noRefL⟩, 4)) := hid (by rw [HO.out, decide_eq_true hW]; simp)
    have c0 := hBJ.out.cell 0
    have c1 := hBJ.out.cell 1
    have c2 := hBJ.out.cell 2
    have c3 := hBJ.out.cell 3
    have c4 := hBJ.out.cell 4
    have c5 := hBJ.out.cell 5
    have c6 := hBJ.out.cell 6
    simp at c0 c1 c2 c3 c4 c5 c6
    have HWl := hid hW
    clear HO hW
    go_wp2_with fail
    refine (Hck _).out.mono ?_
    rintro e w8 ⟨rfl, hU8⟩
    have HR := hid (hU8.blk HR0.out (by simp))
    have HBK := hid (hU8.blk hBJ.out (by simp))
    have HUW := hid (HUW0.out.trans hU8)
    have hz8 : w.heap.size < w8.heap.size := HR.out.lt
    clear hU8 c0 c1 c2 c3 c4 c5 c6
    cases ok with
    | false =>
     simp only [errIf]
     have HO := hO2
     have HP : Hid (PO = (⟨0, 0, [], noRefL⟩, 4)) := hid (by rw [HO.out]; simp)
     clear HO
     go_upto_region 29 with (fail)
     apply wp_region_lit
     refine wpList_build rfl 41 #[] rfl (by kernel_rfl) ?_
     refine wpList_store_row rfl 41 _ _ rfl w.heap.size zeroI (by kernel_rfl) (by kernel_rfl) 41 zeroI HR.out sizeInst rfl (by kernel_rfl) ?_
     have HB9 := hid (setRow_blk HR.out zeroI)
     have HU9 := hid (setRow_upd HUW.out (Nat.le_refl _) zeroI)
     revert HB9 HU9
     generalize World.setRow _ w.heap.size zeroI = w9
     intro HB9 HU9
     have g0 := HB9.out.cell 0
     have g1 := HB9.out.cell 1
     have g2 := HB9.out.cell 2
     have g3 := HB9.out.cell 3
     have g4 := HB9.out.cell 4
     have g5 := HB9.out.cell 5
     have g6 := HB9.out.cell 6
     simp [zeroI] at g0 g1 g2 g3 g4 g5 g6
     go_wp2_with fail
     refine bodyPost_ret (v := .tuple #[.agg #[.int .i64 0, .int .i64 0, .string ⟨#[]⟩, .bool false, .string ⟨#[]⟩, .string ⟨#[]⟩, .string ⟨#[]⟩], .int .i64 4]) (by simp [results, Tryz.results19, go_sem, g0, g1, g2, g3, g4, g5, g6]) rfl ?_
     rw [HP.out]
     exact ⟨rfl, HU9.out⟩
    | true =>
     simp only [errIf, if_true]
     have HP : Hid (PO = (⟨jo, jn, jt, ⟨ic, rc, rn, rd⟩⟩, 0)) := hid (by rw [hO2.out]; rfl)
     go_upto_region 30 with (fail)
     apply wp_region_lit
     obtain ⟨fI, hfI⟩ := undInst
     refine wpList_load_row rfl 41 _ rfl w2.heap.size (by kernel_rfl) 41 _ _ (.struct fI) HBK.out hfI rfl (by kernel_rfl) ?_
     refine wpList_store_row rfl 41 _ _ rfl w.heap.size #[.int .i64 jo, .int .i64 jn, .string (bs jt), .bool ic, .string (bs rc), .string (bs rn), .string (bs rd)] (by kernel_rfl) (by kernel_rfl) 41 zeroI HR.out sizeInst rfl (by kernel_rfl) ?_
     have HB9 := hid (setRow_blk HR.out (#[.int .i64 jo, .int .i64 jn, .string (bs jt), .bool ic, .string (bs rc), .string (bs rn), .string (bs rd)] : Array Value))
     have HU9 := hid (setRow_upd HUW.out (Nat.le_refl _) (#[.int .i64 jo, .int .i64 jn, .string (bs jt), .bool ic, .string (bs rc), .string (bs rn), .string (bs rd)] : Array Value))
     revert HB9 HU9
     generalize w8.setRow w.heap.size _ = w9
     intro HB9 HU9
     have g0 := HB9.out.cell 0
     have g1 := HB9.out.cell 1
     have g2 := HB9.out.cell 2
     have g3 := HB9.out.cell 3
     have g4 := HB9.out.cell 4
     have g5 := HB9.out.cell 5
     have g6 := HB9.out.cell 6
     simp at g0 g1 g2 g3 g4 g5 g6
     go_wp2_with fail
     refine bodyPost_ret (v := .tuple #[.agg #[.int .i64 jo, .int .i64 jn, .string (bs jt), .bool ic, .string (bs rc), .string (bs rn), .string (bs rd)], .int .i64 0]) (by simp [results, Tryz.results19, go_sem, g0, g1, g2, g3, g4, g5, g6]) rfl ?_
     rw [HP.out]
     exact ⟨rfl, HU9.out⟩
   ·have hWb : ((ps.length : Int) != (W : Int)) = true := bne_iff_ne.2 (by omega)
    have hWn : (ps.length != W) = true := bne_iff_ne.2 hW
    have hWi : ¬ (ps.length : Int) = (W : Int) := by omega
    have HWl := hid hW
    have HR := HR0
    have HUW := HUW0
    clear hW
    have HP : Hid (PO = (⟨0, 0, [], noRefL⟩, 4)) := hid (by rw [HO.out]; simp [decide_eq_false HWl.out])
    clear HO
    go_upto_region 29 with (fail)
    apply wp_region_lit
    refine wpList_build rfl 41 #[] rfl (by kernel_rfl) ?_
    refine wpList_store_row rfl 41 _ _ rfl w.heap.size zeroI (by kernel_rfl) (by kernel_rfl) 41 zeroI HR.out sizeInst rfl (by kernel_rfl) ?_
    have HB9 := hid (setRow_blk HR.out zeroI)
    have HU9 := hid (setRow_upd HUW.out (Nat.le_refl _) zeroI)
    revert HB9 HU9
    generalize World.setRow _ w.heap.size zeroI = w9
    intro HB9 HU9
    have g0 := HB9.out.cell 0
    have g1 := HB9.out.cell 1
    have g2 := HB9.out.cell 2
    have g3 := HB9.out.cell 3
    have g4 := HB9.out.cell 4
    have g5 := HB9.out.cell 5
    have g6 := HB9.out.cell 6
    simp [zeroI] at g0 g1 g2 g3 g4 g5 g6
    go_wp2_with fail
    refine bodyPost_ret (v := .tuple #[.agg #[.int .i64 0, .int .i64 0, .string ⟨#[]⟩, .bool false, .string ⟨#[]⟩, .string ⟨#[]⟩, .string ⟨#[]⟩], .int .i64 4]) (by simp [results, Tryz.results19, go_sem, g0, g1, g2, g3, g4, g5, g6]) rfl ?_
    rw [HP.out]
    exact ⟨rfl, HU9.out⟩
end Go.Proofs.YtjjdlgjofjfgmaaGreatDoor
/-
 The flags that words write: package flags reads them as the document; plain laws.
-/
set_option linter.unusedSimpArgs false
set_option linter.unusedVariables false
namespace Go.Proofs.YtjjdlgjofjfgmaaGreatDoor
open Go.RowKit
def orF (m f : Int) (p : List UInt8) : Nat → Int
 | 0 => f
 | k + 1 => if (flagT.getD k (0, [])).2 = p then bits BinOp.or IntKind.i64 (orF m f p k) (bits BinOp.and IntKind.i64 (flagT.getD k (0, [])).1 m) else orF m f p k
def foldF (m : Int) : Int → List (List UInt8) → Int
 | f, [] => f
 | f, p :: ps => foldF m (orF m f p 8) ps
def parseF (m : Int) (l : List UInt8) : Int × Int := if (flagText (foldF m 0 (splitL 32 l)) m).1 = l then (foldF m 0 (splitL 32 l), 0) else (0, 4)
def greedy (l : List UInt8) : List Int → List (List UInt8) → Int → Nat → Int × Nat
 | m :: ms, w :: ws, f, a => if a + (if 0 < a then 32 :: w else w).length ≤ l.length ∧ (l.drop a).take (if 0 < a then 32 :: w else w).length = (if 0 < a then 32 :: w else w) ∧ (a + (if 0 < a then 32 :: w else w).length = l.length ∨ l[a + (if 0 < a then 32 :: w else w).length]? = some 32) then greedy l ms ws (f + m) (a + (if 0 < a then 32 :: w else w).length) else greedy l ms ws f a
 | _, _, f, a => (f, a)
def parseG (ms : List Int) (ws : List (List UInt8)) (l : List UInt8) : Int × Int := if (greedy l ms ws 0 0).2 = l.length then ((greedy l ms ws 0 0).1, 0) else (0, 4)
theorem bits_bd (o : BinOp) (a b : Int) : -9223372036854775808 ≤ bits o IntKind.i64 a b ∧ bits o IntKind.i64 a b ≤ 9223372036854775807 := by
 unfold bits
 split <;> (rw [IntKind.wrap_i64]; omega)
theorem orF_bd (m : Int) (p : List UInt8) (f : Int) (h : -9223372036854775808 ≤ f ∧ f ≤ 9223372036854775807) : ∀ k, -9223372036854775808 ≤ orF m f p k ∧ orF m f p k ≤ 9223372036854775807
 | 0 => h
 | k + 1 => by
  unfold orF
  split
  ·exact bits_bd _ _ _
  ·exact orF_bd m p f h k
theorem foldF_bd (m : Int) : ∀ (ps : List (List UInt8)) (f : Int), (-9223372036854775808 ≤ f ∧ f ≤ 9223372036854775807) → -9223372036854775808 ≤ foldF m f ps ∧ foldF m f ps ≤ 9223372036854775807
 | [], f, h => h
 | p :: ps, f, h => foldF_bd m ps _ (orF_bd m p f h 8)
def selT : List (List UInt8) → List Bool → List UInt8 → List UInt8
 | w :: ws, b :: bs, s => selT ws bs (if b then (if s = [] then w else s ++ 32 :: w) else s)
 | _, _, s => s
theorem greedy_sel (l : List UInt8) : ∀ (ms : List Int) (ws : List (List UInt8)) (f : Int) (a : Nat), ms.length = ws.length → a ≤ l.length → (greedy l ms ws f a).2 ≤ l.length ∧ ∃ bs : List Bool, bs.length = ws.length ∧ l.take (greedy l ms ws f a).2 = selT ws bs (l.take a)
 | [], [], f, a, _, ha => ⟨ha, [], rfl, rfl⟩
 | [], w :: ws, f, a, h, _ => by simp at h
 | m :: ms, [], f, a, h, _ => by simp at h
 | m :: ms, w :: ws, f, a, h, ha => by
  have hl : ms.length = ws.length := by simpa using h
  unfold greedy
  by_cases hc : a + (if 0 < a then 32 :: w else w).length ≤ l.length ∧ (l.drop a).take (if 0 < a then 32 :: w else w).length = (if 0 < a then 32 :: w else w) ∧ (a + (if 0 < a then 32 :: w else w).length = l.length ∨ l[a + (if 0 < a then 32 :: w else w).length]? = some 32)
  ·rw [if_pos hc]
   obtain ⟨h1, bs, h2, h3⟩ := greedy_sel l ms ws (f + m) (a + (if 0 < a then 32 :: w else w).length) hl hc.1
   refine ⟨h1, true :: bs, by simp [h2], ?_⟩
   rw [h3]
   show selT ws bs _ = selT ws bs _
   congr 1
   rw [List.take_add, hc.2.1, if_pos rfl]
   by_cases h0 : 0 < a
   ·rw [if_pos h0, if_neg (by
     intro he
     have := congrArg List.length he
     rw [List.length_take, List.length_nil] at this
     omega)]
   ·have : a = 0 := by omega
    subst this
    simp
  ·rw [if_neg hc]
   obtain ⟨h1, bs, h2, h3⟩ := greedy_sel l ms ws f a hl ha
   refine ⟨h1, false :: bs, by simp [h2], ?_⟩
   rw [h3]
   rfl
theorem selC : ∀ a b c d e : Bool, parseG clsF clsW (selT clsW [a, b, c, d, e] []) = parseF 1585 (selT clsW [a, b, c, d, e] []) := by decide +kernel
theorem selM : ∀ a b c d e f : Bool, parseG mthF mthW (selT mthW [a, b, c, d, e, f] []) = parseF 1055 (selT mthW [a, b, c, d, e, f] []) := by decide +kernel
theorem ownC : ∀ f : Fin 2048, outF (f.val : Int) 1585 = false → parseG clsF clsW (flagsText (f.val : Int)) = ((f.val : Int), 0) ∧ parseF 1585 (flagsText (f.val : Int)) = ((f.val : Int), 0) := by decide +kernel
theorem ownM : ∀ f : Fin 2048, outF (f.val : Int) 1055 = false → parseG mthF mthW (flagsText (f.val : Int)) = ((f.val : Int), 0) ∧ parseF 1055 (flagsText (f.val : Int)) = ((f.val : Int), 0) := by decide +kernel
theorem parseF_good {m : Nat} (hm : m < 2048) (h00 : outF 0 m = false) {l : List UInt8} (h : (parseF m l).2 = 0) : ∃ f : Fin 2048, outF (f.val : Int) m = false ∧ l = flagsText (f.val : Int) := by
 unfold parseF at h
 split at h
 ·rename_i he
  obtain ⟨h0, h1⟩ := foldF_bd (m : Int) (splitL 32 l) 0 (by omega)
  generalize foldF (m : Int) 0 (splitL 32 l) = f at *
  cases ho : outF f m with
  | true =>
   unfold flagText at he
   rw [ho] at he
   simp only [if_true] at he
   subst he
   exact ⟨⟨0, by omega⟩, h00, (by decide : [] = flagsText 0)⟩
  | false =>
   obtain ⟨h2, h3⟩ := outF_small h0 h1 hm ho
   refine ⟨⟨f.toNat, by omega⟩, ?_, ?_⟩
   ·simp only
    rw [show ((f.toNat : Nat) : Int) = f by omega]
    exact ho
   ·simp only
    rw [show ((f.toNat : Nat) : Int) = f by omega]
    unfold flagText at he
    rw [ho] at he
    simpa using he.symm
 ·simp at h
theorem parseG_good {ms : List Int} {ws : List (List UInt8)} (hl : ms.length = ws.length) {l : List UInt8} (h : (parseG ms ws l).2 = 0) : ∃ bs : List Bool, bs.length = ws.length ∧ l = selT ws bs [] := by
 unfold parseG at h
 split at h
 ·rename_i he
  obtain ⟨-, bs, h1, h2⟩ := greedy_sel l ms ws 0 0 hl (Nat.zero_le _)
  rw [he, List.take_length, List.take_zero] at h2
  exact ⟨bs, h1, h2⟩
 ·simp at h
theorem parseF_bad {m : Int} {l : List UInt8} (h : (parseF m l).2 ≠ 0) : parseF m l = (0, 4) := by
 unfold parseF at h ⊢
 split at h
 ·simp at h
 ·rename_i hc
  rw [if_neg hc]
theorem parseG_bad {ms : List Int} {ws : List (List UInt8)} {l : List UInt8} (h : (parseG ms ws l).2 ≠ 0) : parseG ms ws l = (0, 4) := by
 unfold parseG at h ⊢
 split at h
 ·simp at h
 ·rename_i hc
  rw [if_neg hc]
theorem parseC_law (l : List UInt8) : parseG clsF clsW l = parseF 1585 l := by
 by_cases h1 : (parseF 1585 l).2 = 0
 ·obtain ⟨f, h2, rfl⟩ := parseF_good (m := 1585) (by omega) (by decide) h1
  obtain ⟨h3, h4⟩ := ownC f h2
  rw [h3, h4]
 ·by_cases h2 : (parseG clsF clsW l).2 = 0
  ·obtain ⟨bs, h3, rfl⟩ := parseG_good (by rfl) h2
   match bs, h3 with
   | [a, b, c, d, e], _ => exact selC a b c d e
  ·rw [parseF_bad h1, parseG_bad h2]
theorem parseM_law (l : List UInt8) : parseG mthF mthW l = parseF 1055 l := by
 by_cases h1 : (parseF 1055 l).2 = 0
 ·obtain ⟨f, h2, rfl⟩ := parseF_good (m := 1055) (by omega) (by decide) h1
  obtain ⟨h3, h4⟩ := ownM f h2
  rw [h3, h4]
 ·by_cases h2 : (parseG mthF mthW l).2 = 0
  ·obtain ⟨bs, h3, rfl⟩ := parseG_good (by rfl) h2
   match bs, h3 with
   | [a, b, c, d, e, f], _ => exact selM a b c d e f
  ·rw [parseF_bad h1, parseG_bad h2]
end Go.Proofs.YtjjdlgjofjfgmaaGreatDoor
