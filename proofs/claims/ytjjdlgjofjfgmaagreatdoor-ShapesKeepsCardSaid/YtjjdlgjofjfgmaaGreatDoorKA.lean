/-
 The document's flags, walked: Has, known, CheckClass, CheckMethod, text.
-/
import Derived.Test.YtjjdlgjofjfgmaaGreatDoorK9
set_option linter.unusedSimpArgs false
set_option linter.unusedVariables false
namespace Go.Proofs.YtjjdlgjofjfgmaaGreatDoor
open Go.RowKit
/-! ### Flags as numbers -/
theorem wrap_zero {n : Nat} (h : n < 18446744073709551616) : (IntKind.i64.wrap (n : Int) = 0) ↔ n = 0 := by
 rw [IntKind.wrap_i64]
 omega
theorem outF_iff (f m : Int) : outF f m = true ↔ BitVec.ofInt 64 f &&& ~~~(BitVec.ofInt 64 m) ≠ 0#64 := by
 unfold outF bits
 simp only [IntKind.bits, bne_iff_ne, ne_eq]
 rw [wrap_zero (BitVec.isLt _), ← BitVec.toNat_inj]
 exact Iff.rfl
theorem outF_small {f : Int} {m : Nat} (h0 : -9223372036854775808 ≤ f) (h1 : f ≤ 9223372036854775807) (hm : m < 2048) (h : outF f m = false) : 0 ≤ f ∧ f < 2048 := by
 have h2 : BitVec.ofInt 64 f &&& ~~~(BitVec.ofInt 64 (m : Int)) = 0#64 := by
  have := outF_iff f m
  rw [h] at this
  simpa using this
 have h3 : BitVec.ofInt 64 f = BitVec.ofInt 64 f &&& BitVec.ofInt 64 (m : Int) := by
  refine BitVec.eq_of_getLsbD_eq fun i hi => ?_
  have := congrArg (fun b => b.getLsbD i) h2
  simp only [BitVec.getLsbD_and, BitVec.getLsbD_not, BitVec.getLsbD_zero, hi, decide_true, Bool.true_and] at this ⊢
  cases h5 : (BitVec.ofInt 64 f).getLsbD i <;> cases h6 : (BitVec.ofInt 64 (m : Int)).getLsbD i <;> simp_all
 have h4 : (BitVec.ofInt 64 f).toNat ≤ m := by
  rw [h3, BitVec.toNat_and]
  refine Nat.le_trans Nat.and_le_right ?_
  rw [BitVec.toNat_ofInt]
  omega
 rw [BitVec.toNat_ofInt] at h4
 omega
def knownL (f : Int) : List Int → Int
 | [] => 0
 | m :: l => (if anyF f m then m else 0) + knownL f l
theorem knownL_snoc (f m : Int) : ∀ l, knownL f (l ++ [m]) = knownL f l + if anyF f m then m else 0
 | [] => by simp [knownL]
 | x :: l => by simp only [List.cons_append, knownL]; rw [knownL_snoc f m l]; omega
theorem has_any (f m : Int) (w : World) : Calls Tryz.prog 35 #[.int .i64 f, .int .i64 m] w fun e w' => e = .returned (.bool (anyF f m)) ∧ w = w' := by
 have h : (bits BinOp.and IntKind.i64 f m != 0) = anyF f m := rfl
 go_enter Tryz.func35, Tryz.ntmps35
 go_wp2
 go_ret
 exact ⟨rfl, rfl⟩
def intV (n : Int) : Value := .int .i64 n
def knownRel (f : Int) (l : List Int) (w : World) (t u : Value) (wr : World) : Prop :=
 ∃ k : Nat, ∃ n : Int, u = .int .i64 k ∧ k ≤ l.length ∧ t = .int .i64 n ∧ Hid (n = knownL f (l.take k)) ∧ 0 ≤ n ∧ n ≤ 1024 * k ∧ w = wr
set_option maxHeartbeats 2000000 in
theorem known_any3 (f : Int) (l : List Int) (g : Nat) (w : World) (hB : Blk w g 3 (l.map intV).toArray) (hl : ∀ m, m ∈ l → 0 ≤ m ∧ m ≤ 1024) (hn : l.length ≤ 100) :
  Calls Tryz.prog 83 #[.int .i64 f, .slice (some ⟨g, 0, none⟩) l.length l.length] w fun e w' => e = .returned (.int .i64 (knownL f l)) ∧ w = w' := by
 have HB := hid hB
 have HL := hid hl
 have hg := hB.lt
 clear hB hl
 go_enter Tryz.func83, Tryz.ntmps83
 go_wp2
 go_loopw [5, 6] (fun t u wr => knownRel f l w t u wr) (fun _ u _ => l.length - (intOf u).toNat)
 case atStart => exact ⟨0, 0, rfl, Nat.zero_le _, rfl, hid rfl, by omega, by omega, rfl⟩
 case round =>
  obtain ⟨k, n, rfl, hk, rfl, hN, hn0, hn1, rfl⟩ := hrel
  by_cases hlt : k < l.length
  ·have hc : w.cell? ⟨g, k, none⟩ = some (.int .i64 l[k]) := by
    rw [HB.out.cell]
    simp [hlt, intV]
   have hm := HL.out l[k] (List.getElem_mem hlt)
   have hst : Hid (knownL f (l.take (k + 1)) = n + if anyF f l[k] then l[k] else 0) := hid (by rw [List.take_succ_eq_append_getElem hlt, knownL_snoc, hN.out])
   have hb : (bits BinOp.and IntKind.i64 f l[k] != 0) = anyF f l[k] := rfl
   generalize l[k] = m at *
   have hw : wrap64 (n + m) = n + m := by unfold wrap64; omega
   cases hbb : anyF f m with
   | true =>
    rw [hbb] at hb hst
    clear hbb hN
    go_wp2
    go_roundw
    case rel => exact ⟨k + 1, n + m, by go_num, by omega, by first | rfl | rw [hw], hid (by rw [hst.out]; rfl), by omega, by omega, rfl⟩
    case measure => simp [intOf]; omega
   | false =>
    rw [hbb] at hb hst
    clear hbb hN
    go_wp2
    go_roundw
    case rel => exact ⟨k + 1, n, by go_num, by omega, rfl, hid (by rw [hst.out]; simp), by omega, by omega, rfl⟩
    case measure => simp [intOf]; omega
  ·obtain rfl : k = l.length := by omega
   have hN2 := hN.out
   rw [List.take_length] at hN2
   have HN := hid hN2
   clear hN hN2
   go_wp2
   go_ret
   exact ⟨ret_int HN.out, rfl⟩
end Go.Proofs.YtjjdlgjofjfgmaaGreatDoor
/-
 The document's flags, walked: CheckClass, CheckMethod, text; they answer as package flags.
-/
set_option linter.unusedSimpArgs false
set_option linter.unusedVariables false
namespace Go.Proofs.YtjjdlgjofjfgmaaGreatDoor
open Go.RowKit
def clsF : List Int := [1, 16, 32, 512, 1024]
def mthF : List Int := [1, 2, 4, 8, 16, 1024]
def clsW : List (List UInt8) := [[112, 117, 98, 108, 105, 99], [102, 105, 110, 97, 108], [115, 117, 112, 101, 114], [105, 110, 116, 101, 114, 102, 97, 99, 101], [97, 98, 115, 116, 114, 97, 99, 116]]
def mthW : List (List UInt8) := [[112, 117, 98, 108, 105, 99], [112, 114, 105, 118, 97, 116, 101], [112, 114, 111, 116, 101, 99, 116, 101, 100], [115, 116, 97, 116, 105, 99], [102, 105, 110, 97, 108], [97, 98, 115, 116, 114, 97, 99, 116]]
def classRB (f : Int) : Bool := decide (knownL f clsF = f) && !(anyF f 512 && (!anyF f 1024 || anyF f 16 || anyF f 32)) && !(anyF f 16 && anyF f 1024)
def cnt3 (a b c : Bool) : Nat := (if a then 1 else 0) + (if b then 1 else 0) + (if c then 1 else 0)
def methodRB (f : Int) (iface init : Bool) : Bool :=
 decide (knownL f mthF = f) && decide (cnt3 (anyF f 1) (anyF f 2) (anyF f 4) ≤ 1) && !(anyF f 1024 && (anyF f 2 || anyF f 8 || anyF f 16)) &&
  !(iface && (anyF f 4 || anyF f 16 || decide (cnt3 (anyF f 1) (anyF f 2) (anyF f 4) = 0) || init)) && !(init && (anyF f 8 || anyF f 16 || anyF f 1024))
def textGo (f : Int) : List Int → List (List UInt8) → List UInt8 → List UInt8
 | m :: l, x :: r, s => textGo f l r (if anyF f m then (if s = [] then s else s ++ [32]) ++ x else s)
 | _, _, s => s
theorem clsF_le (f : Int) : 0 ≤ knownL f clsF ∧ knownL f clsF < 2048 := by
 simp only [clsF, knownL]
 repeat' split
 all_goals omega
theorem mthF_le (f : Int) : 0 ≤ knownL f mthF ∧ knownL f mthF < 2048 := by
 simp only [mthF, knownL]
 repeat' split
 all_goals omega
theorem class_small : ∀ f : Fin 2048, classRB (f.val : Int) = classF (f.val : Int) ∧ (outF (f.val : Int) 1585 = false → textGo (f.val : Int) clsF clsW [] = flagsText (f.val : Int)) ∧ (decide (knownL (f.val : Int) clsF = (f.val : Int)) = !outF (f.val : Int) 1585) := by decide +kernel
theorem method_small : ∀ f : Fin 2048, (∀ a b : Bool, methodRB (f.val : Int) a b = methodF (f.val : Int) a b) ∧ (outF (f.val : Int) 1055 = false → textGo (f.val : Int) mthF mthW [] = flagsText (f.val : Int)) ∧ (decide (knownL (f.val : Int) mthF = (f.val : Int)) = !outF (f.val : Int) 1055) := by decide +kernel
section
variable {f : Int} (h0 : -9223372036854775808 ≤ f) (h1 : f ≤ 9223372036854775807)
include h0 h1
theorem class_law : classRB f = classF f := by
 by_cases h : 0 ≤ f ∧ f < 2048
 ·have := (class_small ⟨f.toNat, by omega⟩).1
  rw [show ((f.toNat : Nat) : Int) = f by omega] at this
  exact this
 ·have h2 : outF f 1585 = true := by
   cases ho : outF f 1585 with
   | true => rfl
   | false => exact absurd (outF_small (m := 1585) h0 h1 (by omega) ho) h
  have h3 := clsF_le f
  unfold classRB classF
  rw [h2, decide_eq_false (by omega)]
  rfl
theorem method_law (a b : Bool) : methodRB f a b = methodF f a b := by
 by_cases h : 0 ≤ f ∧ f < 2048
 ·have := (method_small ⟨f.toNat, by omega⟩).1 a b
  rw [show ((f.toNat : Nat) : Int) = f by omega] at this
  exact this
 ·have h2 : outF f 1055 = true := by
   cases ho : outF f 1055 with
   | true => rfl
   | false => exact absurd (outF_small (m := 1055) h0 h1 (by omega) ho) h
  have h3 := mthF_le f
  unfold methodRB methodF
  rw [h2, decide_eq_false (by omega)]
  rfl
theorem classText_law : (if knownL f clsF = f then (textGo f clsF clsW [], (0 : Int)) else ([], 1)) = flagText f 1585 := by
 unfold flagText
 by_cases h : 0 ≤ f ∧ f < 2048
 ·obtain ⟨-, h2, h3⟩ := class_small ⟨f.toNat, by omega⟩
  simp only at h2 h3
  rw [show ((f.toNat : Nat) : Int) = f by omega] at h2 h3
  cases ho : outF f 1585 with
  | true => rw [ho] at h3; rw [if_neg (by simpa using h3)]; rfl
  | false => rw [ho] at h3; rw [if_pos (by simpa using h3), h2 ho]; rfl
 ·have h2 : outF f 1585 = true := by
   cases ho : outF f 1585 with
   | true => rfl
   | false => exact absurd (outF_small (m := 1585) h0 h1 (by omega) ho) h
  have h3 := clsF_le f
  rw [h2, if_neg (by omega)]
  rfl
theorem methodText_law : (if knownL f mthF = f then (textGo f mthF mthW [], (0 : Int)) else ([], 1)) = flagText f 1055 := by
 unfold flagText
 by_cases h : 0 ≤ f ∧ f < 2048
 ·obtain ⟨-, h2, h3⟩ := method_small ⟨f.toNat, by omega⟩
  simp only at h2 h3
  rw [show ((f.toNat : Nat) : Int) = f by omega] at h2 h3
  cases ho : outF f 1055 with
  | true => rw [ho] at h3; rw [if_neg (by simpa using h3)]; rfl
  | false => rw [ho] at h3; rw [if_pos (by simpa using h3), h2 ho]; rfl
 ·have h2 : outF f 1055 = true := by
   cases ho : outF f 1055 with
   | true => rfl
   | false => exact absurd (outF_small (m := 1055) h0 h1 (by omega) ho) h
  have h3 := mthF_le f
  rw [h2, if_neg (by omega)]
  rfl
end
theorem knownC_any (f : Int) (g : Nat) (w : World) (hB : Blk w g 3 #[.int .i64 1, .int .i64 16, .int .i64 32, .int .i64 512, .int .i64 1024]) :
  Calls Tryz.prog 83 #[.int .i64 f, .slice (some ⟨g, 0, none⟩) 5 5] w fun e w' => e = .returned (.int .i64 (knownL f clsF)) ∧ w = w' :=
 known_any3 f clsF g w hB (by simp [clsF]) (by simp [clsF])
theorem knownM_any (f : Int) (g : Nat) (w : World) (hB : Blk w g 3 #[.int .i64 1, .int .i64 2, .int .i64 4, .int .i64 8, .int .i64 16, .int .i64 1024]) :
  Calls Tryz.prog 83 #[.int .i64 f, .slice (some ⟨g, 0, none⟩) 6 6] w fun e w' => e = .returned (.int .i64 (knownL f mthF)) ∧ w = w' :=
 known_any3 f mthF g w hB (by simp [mthF]) (by simp [mthF])
set_option maxHeartbeats 2000000 in
theorem checkClassR_any (f : Int) (w : World) : Calls Tryz.prog 33 #[.int .i64 f] w fun e w' => e = .returned (.int .i64 (errIf (classRB f))) ∧ Upd w w' [] := by
 unfold classRB
 have Hk := fun g w hB => hid (knownC_any f g w hB)
 obtain ⟨b0, h0⟩ : ∃ b, decide (knownL f clsF = f) = b := ⟨_, rfl⟩
 have hk0 : (knownL f clsF != f) = !b0 := by rw [← h0, Bool.eq_iff_iff]; simp
 rw [h0]
 have h512 : (bits BinOp.and IntKind.i64 f 512 != 0) = anyF f 512 := rfl
 have h1024 : (bits BinOp.and IntKind.i64 f 1024 != 0) = anyF f 1024 := rfl
 have h16 : (bits BinOp.and IntKind.i64 f 16 != 0) = anyF f 16 := rfl
 have h32 : (bits BinOp.and IntKind.i64 f 32 != 0) = anyF f 32 := rfl
 generalize knownL f clsF = kn at Hk hk0
 clear h0
 generalize anyF f 512 = b1 at *
 generalize anyF f 1024 = b2 at *
 generalize anyF f 16 = b3 at *
 generalize anyF f 32 = b4 at *
 cases b0 <;> cases b1 <;> cases b2 <;> cases b3 <;> cases b4
 all_goals
  go_enter Tryz.func33, Tryz.ntmps33
  go_wp2_with (first | (go_at_call 83; (refine (Hk _ _ (by exact Blk.new_at (by simp))).out.mono ?_); rintro e w1 ⟨rfl, rfl⟩) | go_in)
  go_ret
  exact ⟨by simp [errIf], (Upd.refl _ _).alloc _⟩
end Go.Proofs.YtjjdlgjofjfgmaaGreatDoor
/-
 The document's text, ClassText, MethodText, walked. (Printed by gen_flagsT.py.)
-/
set_option linter.unusedSimpArgs false
set_option linter.unusedVariables false
namespace Go.Proofs.YtjjdlgjofjfgmaaGreatDoor
open Go.RowKit
def textRelR (f : Int) (ms : List Int) (ws : List (List UInt8)) (w : World) (t u : Value) (wr : World) : Prop :=
 ∃ (k : Nat) (s : List UInt8), t = .string (bs s) ∧ u = .int .i64 k ∧ k ≤ ms.length ∧ Hid (textGo f ms ws [] = textGo f (ms.drop k) (ws.drop k) s) ∧ s.length ≤ 20 * k ∧ w = wr
theorem textGo_step {f : Int} {ms : List Int} {ws : List (List UInt8)} {k : Nat} (h : k < ms.length) (h' : k < ws.length) (s : List UInt8) :
  textGo f (ms.drop k) (ws.drop k) s = textGo f (ms.drop (k + 1)) (ws.drop (k + 1)) (if anyF f ms[k] then (if s = [] then s else s ++ [32]) ++ ws[k] else s) := by
 rw [List.drop_eq_getElem_cons h, List.drop_eq_getElem_cons h']
 rfl
theorem textGo_end (f : Int) (ws : List (List UInt8)) (s : List UInt8) : textGo f [] ws s = s := by
 cases ws <;> rfl
set_option maxHeartbeats 4000000 in
set_option maxRecDepth 100000 in
theorem text96_any (f : Int) (ms : List Int) (ws : List (List UInt8)) (g h : Nat) (w : World) (hB : Blk w g 3 (ms.map intV).toArray) (hC : Blk w h 9 (ws.map strV).toArray) (hms : ∀ m, m ∈ ms → 0 ≤ m ∧ m ≤ 1024) (hws : ∀ x, x ∈ ws → x.length ≤ 10) (hl : ms.length = ws.length) (hn : ms.length ≤ 20) :
  Calls Tryz.prog 96 #[.int .i64 f, .slice (some ⟨g, 0, none⟩) ms.length ms.length, .slice (some ⟨h, 0, none⟩) ms.length ms.length] w fun e w' => e = .returned (.tuple #[.string (bs (if knownL f ms = f then (textGo f ms ws [], (0 : Int)) else ([], 1)).1), .int .i64 (if knownL f ms = f then (textGo f ms ws [], (0 : Int)) else ([], 1)).2]) ∧ w = w' := by
 have Hk := fun w hB => hid (known_any3 f ms g w hB hms (by omega))
 have HB := hid hB
 have HC := hid hC
 have HW := hid hws
 have HL := hid hl
 have hg := hB.lt
 have hh := hC.lt
 clear hms hws hl
 by_cases he : knownL f ms = f
 ·rw [if_pos he]
  have hk0 : (knownL f ms != f) = false := by rw [he]; simp
  generalize knownL f ms = kn at Hk hk0
  clear he
  go_enter Tryz.func96, Tryz.ntmps96
  go_wp2_with fail
  refine (Hk _ hB).out.mono ?_
  rintro e w1 ⟨rfl, rfl⟩
  clear hB hC
  go_wp2
  go_loopw [8, 9] (fun t u wr => textRelR f ms ws w t u wr) (fun _ u _ => ms.length - (intOf u).toNat)
  case atStart => exact ⟨0, [], rfl, rfl, Nat.zero_le _, hid rfl, by simp, rfl⟩
  case round =>
   obtain ⟨k, s, rfl, rfl, hk, hT, hsl, rfl⟩ := hrel
   by_cases hlt : k < ms.length
   ·have hltw : k < ws.length := by rw [← HL.out]; exact hlt
    have hc : w.cell? ⟨g, k, none⟩ = some (.int .i64 ms[k]) := by
     rw [HB.out.cell]
     simp [hlt, intV]
    have hd : w.cell? ⟨h, k, none⟩ = some (.string (bs ws[k])) := by
     rw [HC.out.cell]
     simp [hltw, strV]
    have hx := HW.out ws[k] (List.getElem_mem hltw)
    have hst := hid (hT.out.trans (textGo_step hlt hltw s))
    have hb : (bits BinOp.and IntKind.i64 f ms[k] != 0) = anyF f ms[k] := rfl
    generalize ms[k] = m at *
    generalize ws[k] = x at *
    clear hT
    have hsz : (bs s).size ≤ 400 := by rw [bs_size]; omega
    have hsx : (bs x).size ≤ 10 := by rw [bs_size]; omega
    cases hbb : anyF f m with
    | true =>
     rw [hbb] at hb hst
     by_cases hs : s = []
     ·subst hs
      have he1 : ((bs []).toList != []) = false := by rw [bs_toList]; rfl
      have hcat : (bs [] ++ bs x) = bs x := by rw [bs_append]; rfl
      have Hcat := hid hcat
      have Hst2 : Hid (textGo f ms ws [] = textGo f (ms.drop (k + 1)) (ws.drop (k + 1)) x) := hid (by rw [hst.out]; simp)
      clear hst hbb hcat
      simp only [bs_nil] at *
      go_wp2
      go_roundw
      case rel => exact ⟨k + 1, x, by first | rw [Hcat.out] | simp, by go_num, by omega, Hst2, by omega, rfl⟩
      case measure => simp [intOf]; omega
     ·have he1 : ((bs s).toList != []) = true := by rw [bs_toList]; simpa using hs
      have he2 : (!(bs s).toList.isEmpty) = true := by rw [bs_toList]; simpa using hs
      have he3 : ¬ (bs s).toList = [] := by rw [bs_toList]; exact hs
      have hcat : (bs s ++ ⟨#[32]⟩ ++ bs x) = bs (s ++ [32] ++ x) := by rw [show (⟨#[32]⟩ : ByteArray) = bs [32] from rfl, bs_append, bs_append]
      have Hcat := hid hcat
      have Hst2 : Hid (textGo f ms ws [] = textGo f (ms.drop (k + 1)) (ws.drop (k + 1)) (s ++ [32] ++ x)) := hid (by rw [hst.out]; simp [hs])
      clear hst hbb hcat hs
      go_wp2
      go_roundw
      case rel => exact ⟨k + 1, s ++ [32] ++ x, by rw [Hcat.out], by go_num, by omega, Hst2, by simp; omega, rfl⟩
      case measure => simp [intOf]; omega
    | false =>
     rw [hbb] at hb hst
     have Hst2 : Hid (textGo f ms ws [] = textGo f (ms.drop (k + 1)) (ws.drop (k + 1)) s) := hid (by rw [hst.out]; simp)
     clear hst hbb
     go_wp2
     go_roundw
     case rel => exact ⟨k + 1, s, rfl, by go_num, by omega, Hst2, by omega, rfl⟩
     case measure => simp [intOf]; omega
   ·obtain rfl : k = ms.length := by omega
    have HT : Hid (textGo f ms ws [] = s) := hid (by rw [hT.out, List.drop_length, textGo_end])
    clear hT
    go_wp2
    go_ret2
    exact ⟨by rw [HT.out]; rfl, rfl⟩
 ·rw [if_neg he]
  have hk0 : (knownL f ms != f) = true := by simpa using he
  generalize knownL f ms = kn at Hk hk0
  clear he
  go_enter Tryz.func96, Tryz.ntmps96
  go_wp2_with fail
  refine (Hk _ hB).out.mono ?_
  rintro e w1 ⟨rfl, rfl⟩
  go_wp2
  go_ret2
  exact ⟨rfl, rfl⟩
theorem classTextR_any (f : Int) (h0 : -9223372036854775808 ≤ f) (h1 : f ≤ 9223372036854775807) (w : World) :
  Calls Tryz.prog 49 #[.int .i64 f] w fun e w' => e = .returned (.tuple #[.string (bs (flagText f 1585).1), .int .i64 (flagText f 1585).2]) ∧ Upd w w' [] := by
 have Ht : ∀ g h w, Blk w g 3 #[.int .i64 1, .int .i64 16, .int .i64 32, .int .i64 512, .int .i64 1024] → Blk w h 9 #[.string ⟨#[112, 117, 98, 108, 105, 99]⟩, .string ⟨#[102, 105, 110, 97, 108]⟩, .string ⟨#[115, 117, 112, 101, 114]⟩, .string ⟨#[105, 110, 116, 101, 114, 102, 97, 99, 101]⟩, .string ⟨#[97, 98, 115, 116, 114, 97, 99, 116]⟩] → Hid (Calls Tryz.prog 96 #[.int .i64 f, .slice (some ⟨g, 0, none⟩) 5 5, .slice (some ⟨h, 0, none⟩) 5 5] w fun e w' => e = .returned (.tuple #[.string (bs (flagText f 1585).1), .int .i64 (flagText f 1585).2]) ∧ w = w') := by
  intro g h w hB hC
  have := text96_any f clsF clsW g h w hB hC (by simp [clsF]) (by simp [clsW]) rfl (by simp [clsF])
  rw [classText_law h0 h1] at this
  exact hid this
 generalize flagText f 1585 = p at Ht ⊢
 obtain ⟨a, b⟩ := p
 simp only at Ht ⊢
 go_enter Tryz.func49, Tryz.ntmps49
 go_wp2_with (first | (go_at_call 96; (refine (Ht _ _ _ (by exact (Blk.new_at (by simp)).alloc _) (by exact Blk.new_at (by simp))).out.mono ?_); rintro e w1 ⟨rfl, rfl⟩) | go_in)
 go_ret2
 exact ⟨rfl, ((Upd.refl _ _).alloc _).alloc _⟩
theorem methodTextR_any (f : Int) (h0 : -9223372036854775808 ≤ f) (h1 : f ≤ 9223372036854775807) (w : World) :
  Calls Tryz.prog 51 #[.int .i64 f] w fun e w' => e = .returned (.tuple #[.string (bs (flagText f 1055).1), .int .i64 (flagText f 1055).2]) ∧ Upd w w' [] := by
 have Ht : ∀ g h w, Blk w g 3 #[.int .i64 1, .int .i64 2, .int .i64 4, .int .i64 8, .int .i64 16, .int .i64 1024] → Blk w h 9 #[.string ⟨#[112, 117, 98, 108, 105, 99]⟩, .string ⟨#[112, 114, 105, 118, 97, 116, 101]⟩, .string ⟨#[112, 114, 111, 116, 101, 99, 116, 101, 100]⟩, .string ⟨#[115, 116, 97, 116, 105, 99]⟩, .string ⟨#[102, 105, 110, 97, 108]⟩, .string ⟨#[97, 98, 115, 116, 114, 97, 99, 116]⟩] → Hid (Calls Tryz.prog 96 #[.int .i64 f, .slice (some ⟨g, 0, none⟩) 6 6, .slice (some ⟨h, 0, none⟩) 6 6] w fun e w' => e = .returned (.tuple #[.string (bs (flagText f 1055).1), .int .i64 (flagText f 1055).2]) ∧ w = w') := by
  intro g h w hB hC
  have := text96_any f mthF mthW g h w hB hC (by simp [mthF]) (by simp [mthW]) rfl (by simp [mthF])
  rw [methodText_law h0 h1] at this
  exact hid this
 generalize flagText f 1055 = p at Ht ⊢
 obtain ⟨a, b⟩ := p
 simp only at Ht ⊢
 go_enter Tryz.func51, Tryz.ntmps51
 go_wp2_with (first | (go_at_call 96; (refine (Ht _ _ _ (by exact (Blk.new_at (by simp)).alloc _) (by exact Blk.new_at (by simp))).out.mono ?_); rintro e w1 ⟨rfl, rfl⟩) | go_in)
 go_ret2
 exact ⟨rfl, ((Upd.refl _ _).alloc _).alloc _⟩
end Go.Proofs.YtjjdlgjofjfgmaaGreatDoor
