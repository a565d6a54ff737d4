/-
  SameRef, Same, SameCode, walked.
-/
import Derived.Lib.QuietBelow
import Derived.Test.YtfpdeiefkimaaaaGreatDoorK6
import Derived.Test.YtfpdeiefkimaaaaGreatDoorK8
import Derived.Test.YtfpdeiefkimaaaaGreatDoorKA
import Derived.Test.YtfpdeiefkimaaaaGreatDoorKF
import Derived.Test.YtfpdeiefkimaaaaGreatDoorKH
set_option linter.unusedSimpArgs false
set_option linter.unusedVariables false
namespace Go.Proofs.YtfpdeiefkimaaaaGreatDoor
open Go.RowKit

end Go.Proofs.YtfpdeiefkimaaaaGreatDoor
/-
  SameCode at two equal lists, walked.
-/
set_option linter.unusedSimpArgs false
set_option linter.unusedVariables false
namespace Go.Proofs.YtfpdeiefkimaaaaGreatDoor
open Go.RowKit Go.Sort

def sameCodeRel (l : List InstL) (w : World) (t : Value) (wr : World) : Prop :=
  ∃ k : Nat, t = .int .i64 k ∧ k ≤ l.length ∧ Upd w wr []

end Go.Proofs.YtfpdeiefkimaaaaGreatDoor
/-
  The document's reading of a reference's text and of a number, and of a line: the same as package code's; plain laws.
-/
set_option linter.unusedSimpArgs false
set_option linter.unusedVariables false
namespace Go.Proofs.YtfpdeiefkimaaaaGreatDoor
open Go.RowKit

theorem foldD_digits : ∀ (u : Nat) (r : List UInt8), foldD 0 (Lib.decDigits u ++ r) = foldD u r := by
  intro u
  induction u using Nat.strongRecOn with
  | ind u ih =>
    intro r
    rw [Lib.decDigits]
    by_cases h : u < 10
    · rw [dif_pos h, List.singleton_append]
      show (if 48 ≤ (UInt8.toNat _) ∧ (UInt8.toNat _) ≤ 57 then _ else none) = _
      have e : (UInt8.ofNat (48 + u)).toNat = 48 + u := by simp; omega
      simp only [e]
      rw [if_pos (by omega)]
      congr 1
      omega
    · rw [dif_neg h, List.append_assoc, List.singleton_append, ih (u / 10) (by omega)]
      show (if 48 ≤ (UInt8.toNat _) ∧ (UInt8.toNat _) ≤ 57 then _ else none) = _
      have e : (UInt8.ofNat (48 + u % 10)).toNat = 48 + u % 10 := by simp; omega
      simp only [e]
      rw [if_pos (by omega)]
      congr 1
      omega
theorem decDigits_le : ∀ (k u : Nat), u < 10 ^ (k + 1) → (Lib.decDigits u).length ≤ k + 1
  | 0, u, h => by
    rw [Lib.decDigits, dif_pos (by simpa using h)]
    simp
  | k + 1, u, h => by
    rw [Lib.decDigits]
    by_cases hu : u < 10
    · rw [dif_pos hu]
      simp
    · rw [dif_neg hu]
      have := decDigits_le k (u / 10) (by rw [Nat.pow_succ] at h; omega)
      simp
      omega
theorem foldD_lt : ∀ (l : List UInt8) (n m : Nat), foldD n l = some m → m < (n + 1) * 10 ^ l.length
  | [], n, m, h => by
    simp only [foldD, Option.some.injEq] at h
    simp
    omega
  | c :: t, n, m, h => by
    unfold foldD at h
    split at h
    · rename_i hc
      have h1 := foldD_lt t _ m h
      have h2 : n * 10 + (c.toNat - 48) + 1 ≤ (n + 1) * 10 := by omega
      have h3 := Nat.mul_le_mul_right (10 ^ t.length) h2
      rw [List.length_cons, Nat.pow_succ]
      have h4 : (n + 1) * 10 * 10 ^ t.length = (n + 1) * (10 ^ t.length * 10) := by rw [Nat.mul_assoc, Nat.mul_comm 10]
      omega
    · cases h
theorem numOut_itoa (n : Int) (h0 : -9999999999 ≤ n) (h1 : n ≤ 9999999999) : numOut (Lib.itoa n) = (n, true) := by
  obtain ⟨c, t, hd, hc1, hc2⟩ := dec_head n.natAbs
  have hl := decDigits_le 9 n.natAbs (by omega)
  have hf := foldD_digits n.natAbs []
  rw [List.append_nil] at hf
  have hf2 : foldD n.natAbs [] = some n.natAbs := rfl
  rw [hf2] at hf
  have hpos : 0 < (Lib.decDigits n.natAbs).length := by rw [hd]; simp
  by_cases hn : n < 0
  · have e : Lib.itoa n = 45 :: Lib.decDigits n.natAbs := by unfold Lib.itoa; rw [if_pos hn]
    have ha : numAt (Lib.itoa n) = 1 := by rw [e]; rfl
    unfold numOut
    rw [ha, if_neg (by rw [e, List.length_cons]; omega)]
    have e2 : (Lib.itoa n).drop 1 = Lib.decDigits n.natAbs := by rw [e]; rfl
    rw [e2, hf]
    simp only [if_true]
    have e3 : -(n.natAbs : Int) = n := by omega
    rw [e3]
    simp
  · have e : Lib.itoa n = Lib.decDigits n.natAbs := by unfold Lib.itoa; rw [if_neg hn, show n.toNat = n.natAbs by omega]
    have ha : numAt (Lib.itoa n) = 0 := by
      rw [e, hd]
      unfold numAt
      rw [List.head?_cons, if_neg]
      intro hh
      have := Option.some.inj hh
      rw [this] at hc1
      simp at hc1
    unfold numOut
    rw [ha, if_neg (by rw [e]; omega)]
    have e2 : (Lib.itoa n).drop 0 = Lib.decDigits n.natAbs := by rw [e]; rfl
    rw [e2, hf]
    simp only [Nat.zero_ne_one, if_false]
    have e3 : (n.natAbs : Int) = n := by omega
    rw [e3]
    simp
theorem numOut_good {l : List UInt8} (h : (numOut l).2 = true) : Lib.itoa (numOut l).1 = l ∧ -9999999999 ≤ (numOut l).1 ∧ (numOut l).1 ≤ 9999999999 := by
  unfold numOut at h ⊢
  split at h
  · simp at h
  · rename_i hc
    rw [if_neg hc]
    cases hf : foldD 0 (l.drop (numAt l)) with
    | none => rw [hf] at h; simp at h
    | some n =>
      rw [hf] at h
      simp only [decide_eq_true_eq] at h
      have hlt := foldD_lt _ _ _ hf
      have hle : 10 ^ (l.drop (numAt l)).length ≤ 10 ^ 10 := Nat.pow_le_pow_right (by omega) (by rw [List.length_drop]; omega)
      have hn : n < 10000000000 := by
        rw [Nat.zero_add, Nat.one_mul] at hlt
        exact Nat.lt_of_lt_of_le hlt hle
      simp only
      refine ⟨h, ?_, ?_⟩
      · split <;> omega
      · split <;> omega
end Go.Proofs.YtfpdeiefkimaaaaGreatDoor
/-
  The document's reading of a line is package code's: plain laws.
-/
set_option linter.unusedSimpArgs false
set_option linter.unusedVariables false
namespace Go.Proofs.YtfpdeiefkimaaaaGreatDoor
open Go.RowKit

/-- What the document's Parse puts together out of a line's words; whether number and reference are fine; how many words are wanted. -/
def docN (k : Int) (ps : List (List UInt8)) : Bool := decide (((k = 1 ∨ k = 2 ∨ k = 3) ∧ ps.length = 2) ∨ (k = 7 ∧ ps.length = 3))
def docI (l : List UInt8) : InstL :=
  let ps := splitL 32 l
  let op := opN (ps.headD [])
  let k := kindL op
  ⟨op, if docN k ps then (numOut (ps.getD 1 [])).1 else 0, if k = 4 ∨ k = 5 ∨ k = 6 then ps.getLastD [] else if k = 7 ∧ ps.length = 3 then ps.getD 2 [] else [], if k = 8 ∧ ps.length = 2 then (refOut (ps.getD 1 [])).1 else noRefL⟩
def docF (l : List UInt8) : Bool :=
  let ps := splitL 32 l
  let k := kindL (opN (ps.headD []))
  if docN k ps then (numOut (ps.getD 1 [])).2 else if k = 8 ∧ ps.length = 2 then decide ((refOut (ps.getD 1 [])).2 = 0) else true
def docW (l : List UInt8) : Nat :=
  let k := kindL (opN ((splitL 32 l).headD []))
  if k = -1 ∨ k = 0 then 1 else if k = 7 then 3 else 2
def docOut (l : List UInt8) : InstL × Int := if (docF l && decide ((splitL 32 l).length = docW l)) && (docI l).ok then (docI l, 0) else (⟨0, 0, [], noRefL⟩, 4)

end Go.Proofs.YtfpdeiefkimaaaaGreatDoor
/-
  The document's Parse of a line, walked.
-/
set_option linter.unusedSimpArgs false
set_option linter.unusedVariables false
namespace Go.Proofs.YtfpdeiefkimaaaaGreatDoor
open Go.RowKit Go.Sort

end Go.Proofs.YtfpdeiefkimaaaaGreatDoor
/-
  The flags that words write: package flags reads them as the document; plain laws.
-/
set_option linter.unusedSimpArgs false
set_option linter.unusedVariables false
namespace Go.Proofs.YtfpdeiefkimaaaaGreatDoor
open Go.RowKit

/-- A word's flag among m, added to f: of the first k words. -/
def orF (m f : Int) (p : List UInt8) : Nat → Int
  | 0 => f
  | k + 1 => if (flagT.getD k (0, [])).2 = p then bits BinOp.or IntKind.i64 (orF m f p k) (bits BinOp.and IntKind.i64 (flagT.getD k (0, [])).1 m) else orF m f p k
def foldF (m : Int) : Int → List (List UInt8) → Int
  | f, [] => f
  | f, p :: ps => foldF m (orF m f p 8) ps
/-- What package flags reads. -/
def parseF (m : Int) (l : List UInt8) : Int × Int := if (flagText (foldF m 0 (splitL 32 l)) m).1 = l then (foldF m 0 (splitL 32 l), 0) else (0, 4)
/-- The document's way through the words. -/
def greedy (l : List UInt8) : List Int → List (List UInt8) → Int → Nat → Int × Nat
  | m :: ms, w :: ws, f, a => if a + (if 0 < a then 32 :: w else w).length ≤ l.length ∧ (l.drop a).take (if 0 < a then 32 :: w else w).length = (if 0 < a then 32 :: w else w) ∧ (a + (if 0 < a then 32 :: w else w).length = l.length ∨ l[a + (if 0 < a then 32 :: w else w).length]? = some 32) then greedy l ms ws (f + m) (a + (if 0 < a then 32 :: w else w).length) else greedy l ms ws f a
  | _, _, f, a => (f, a)
def parseG (ms : List Int) (ws : List (List UInt8)) (l : List UInt8) : Int × Int := if (greedy l ms ws 0 0).2 = l.length then ((greedy l ms ws 0 0).1, 0) else (0, 4)

theorem bits_bd (o : BinOp) (a b : Int) : -9223372036854775808 ≤ bits o IntKind.i64 a b ∧ bits o IntKind.i64 a b ≤ 9223372036854775807 := by
  unfold bits
  split <;> (rw [IntKind.wrap_i64]; omega)
theorem orF_bd (m : Int) (p : List UInt8) (f : Int) (h : -9223372036854775808 ≤ f ∧ f ≤ 9223372036854775807) : ∀ k, -9223372036854775808 ≤ orF m f p k ∧ orF m f p k ≤ 9223372036854775807
  | 0 => h
  | k + 1 => by
    unfold orF
    split
    · exact bits_bd _ _ _
    · exact orF_bd m p f h k
theorem foldF_bd (m : Int) : ∀ (ps : List (List UInt8)) (f : Int), (-9223372036854775808 ≤ f ∧ f ≤ 9223372036854775807) → -9223372036854775808 ≤ foldF m f ps ∧ foldF m f ps ≤ 9223372036854775807
  | [], f, h => h
  | p :: ps, f, h => foldF_bd m ps _ (orF_bd m p f h 8)

/-- Some of the words, joined. -/
def selT : List (List UInt8) → List Bool → List UInt8 → List UInt8
  | w :: ws, b :: bs, s => selT ws bs (if b then (if s = [] then w else s ++ 32 :: w) else s)
  | _, _, s => s
end Go.Proofs.YtfpdeiefkimaaaaGreatDoor
