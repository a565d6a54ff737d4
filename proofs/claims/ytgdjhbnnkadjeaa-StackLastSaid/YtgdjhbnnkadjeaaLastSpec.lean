/- What StackLast does to the lowest frame. No program text. -/
import Derived.Test.YtgdjhbnnkadjeaaState
namespace Go.Proofs.Ytgdjhbnnkadjeaa
open Go.RowKit

/-- The lowest frame behind a puts and b settings of locals. -/
def mJ (vs : List V2) (l r a b : Nat) : M := ⟨vs.take (min a r), vs.take (min b l) ++ List.replicate (l - min b l) zero2, r⟩

theorem mJ_zero (vs : List V2) (l r : Nat) : mJ vs l r 0 0 = ⟨[], List.replicate l zero2, r⟩ := by simp [mJ]
theorem take_getD (vs : List V2) (a : Nat) (h : a < vs.length) : vs.take (a + 1) = vs.take a ++ [vs.getD a zero2] := by
  rw [List.take_succ_eq_append_getElem h]
  simp [List.getD, h]
theorem sPut_mJ (vs : List V2) (l r a b : Nat) (ha : a < vs.length) : sPut [mJ vs l r a b] (vs.getD a zero2) = ([mJ vs l r (a + 1) b], if a < r then 0 else 35) := by
  have e : ([mJ vs l r a b] : List M) = [] ++ [mJ vs l r a b] := rfl
  unfold sPut
  rw [e, onTop_snoc]
  by_cases h : a < r
  · have h1 : min a r = a := by omega
    have h2 : min (a + 1) r = a + 1 := by omega
    simp only [mJ, h1, h2, if_pos h, List.length_take]
    rw [if_neg (by omega), take_getD vs a ha]
    rfl
  · have h1 : min a r = r := by omega
    have h2 : min (a + 1) r = r := by omega
    simp only [mJ, h1, h2, if_neg h, List.length_take]
    rw [if_pos (by omega)]
    rfl
theorem sSet_mJ (vs : List V2) (l r a b : Nat) (hb : b < vs.length) (hl : b < l) : sSet [mJ vs l r a b] b (vs.getD b zero2) = ([mJ vs l r a (b + 1)], 0) := by
  have e : ([mJ vs l r a b] : List M) = [] ++ [mJ vs l r a b] := rfl
  unfold sSet
  rw [e, onTop_snoc]
  have h1 : min b l = b := by omega
  have h2 : min (b + 1) l = b + 1 := by omega
  simp only [mJ, h1, h2, List.length_append, List.length_take, List.length_replicate]
  rw [if_neg (by omega)]
  have e3 : (vs.take b ++ List.replicate (l - b) zero2).set b (vs.getD b zero2) = vs.take (b + 1) ++ List.replicate (l - (b + 1)) zero2 := by
    rw [List.set_append_right _ _ (by simp; omega), take_getD vs b hb, List.append_assoc]
    congr 1
    have : b - (vs.take b).length = 0 := by simp; omega
    rw [this, show l - b = (l - (b + 1)) + 1 by omega, List.replicate_succ]
    rfl
  simp only [Int.toNat_natCast, e3, List.nil_append]
theorem mJ_set (vs : List V2) (l r a b : Nat) (hl : ¬ b < l) : mJ vs l r a (b + 1) = mJ vs l r a b := by
  unfold mJ
  rw [show min (b + 1) l = min b l by omega]
theorem mJ_words (vs : List V2) (l r a b : Nat) (hb : b ≤ vs.length) : (mJ vs l r a b).words = l + r + 3 := by
  simp [mJ, M.words]
  omega

theorem sEnter_first (l r : Int) : (sEnter [] l r).2 = 0 ∨ ((sEnter [] l r).2 = 2 ∧ (sEnter [] l r).1 = []) := by
  unfold sEnter
  split
  · exact .inr ⟨rfl, rfl⟩
  · rename_i h
    rw [if_neg (by simp [msum]; omega)]
    exact .inl rfl
theorem sEnter_good (l r : Nat) (hl : l ≤ 40) (hr : r ≤ 40) (vs : List V2) : sEnter [] l r = ([mJ vs l r 0 0], 0) := by
  unfold sEnter
  rw [if_neg (by omega), if_neg (by simp [msum]; omega), mJ_zero]
  simp
theorem sEnter_top (m : M) (h : m.words ≤ 83) : sEnter [m] 0 3 = ([m, ⟨[], [], 3⟩], 0) := by
  unfold sEnter
  rw [if_neg (by omega), if_neg (by simp [msum]; omega)]
  rfl

theorem sEnter_cons (m : M) (t : List M) (a b : Int) : ∃ t', (sEnter (m :: t) a b).1 = m :: t' ∧ (((sEnter (m :: t) a b).2 = 0 ∧ t'.length = t.length + 1) ∨ (((sEnter (m :: t) a b).2 == 0) = false ∧ t' = t)) := by
  unfold sEnter
  split
  · exact ⟨t, rfl, .inr ⟨rfl, rfl⟩⟩
  · split
    · exact ⟨t, rfl, .inr ⟨rfl, rfl⟩⟩
    · exact ⟨t ++ [_], rfl, .inl ⟨rfl, by simp⟩⟩
theorem cons_snoc {m : M} {t : List M} (ht : t ≠ []) : ∃ i x, t = i ++ [x] ∧ m :: t = (m :: i) ++ [x] := by
  rcases last_cases t with h | ⟨i, x, h⟩
  · exact absurd h ht
  · exact ⟨i, x, h, by rw [h]; rfl⟩
theorem sPut_cons (m : M) (t : List M) (v : V2) (ht : t ≠ []) : ∃ t', (sPut (m :: t) v).1 = m :: t' ∧ t'.length = t.length := by
  obtain ⟨i, x, rfl, e⟩ := cons_snoc (m := m) ht
  rw [e]
  unfold sPut
  rw [onTop_snoc]
  split
  · exact ⟨i ++ [x], rfl, rfl⟩
  · exact ⟨i ++ [_], rfl, by simp⟩
theorem sSet_cons (m : M) (t : List M) (k : Int) (v : V2) (ht : t ≠ []) : ∃ t', (sSet (m :: t) k v).1 = m :: t' ∧ t'.length = t.length := by
  obtain ⟨i, x, rfl, e⟩ := cons_snoc (m := m) ht
  rw [e]
  unfold sSet
  rw [onTop_snoc]
  split
  · exact ⟨i ++ [x], rfl, rfl⟩
  · exact ⟨i ++ [_], rfl, by simp⟩
theorem sLeave_cons (m : M) (t : List M) (k : Nat) (ht : t.length = k + 1) : ∃ t', sLeave (m :: t) = (m :: t', 0) ∧ t'.length = k := by
  obtain ⟨i, x, rfl, e⟩ := cons_snoc (m := m) (t := t) (by rintro rfl; simp at ht)
  rw [e]
  unfold sLeave
  rw [onTop_snoc]
  exact ⟨i, rfl, by simpa using ht⟩
theorem sLocal_mJ (vs : List V2) (l r a i : Nat) (hi : i < l) (hv : i < vs.length) : sLocal [mJ vs l r a vs.length] i = (vs.getD i zero2, 0) := by
  have e : ([mJ vs l r a vs.length] : List M) = [] ++ [mJ vs l r a vs.length] := rfl
  unfold sLocal
  rw [e, onTop_snoc]
  simp only [mJ, List.length_append, List.length_take, List.length_replicate]
  rw [if_neg (by omega)]
  congr 1
  simp only [Int.toNat_natCast, List.getD]
  rw [List.getElem?_append_left (by simp; omega), List.getElem?_take, if_pos (by omega)]
/-- The frame with the first i operands. -/
def mT (vs : List V2) (i : Nat) (locs : List V2) (r : Nat) : M := ⟨vs.take i, locs, r⟩
theorem sTake_mT (vs : List V2) (i : Nat) (locs : List V2) (r : Nat) (hi : i < vs.length) : sTake [mT vs (i + 1) locs r] = ([mT vs i locs r], vs.getD i zero2, 0) := by
  have e : ([mT vs (i + 1) locs r] : List M) = [] ++ [mT vs (i + 1) locs r] := rfl
  unfold sTake
  rw [e, onTop_snoc]
  simp only [mT, take_getD vs i hi]
  simp
theorem sTake_none (vs : List V2) (locs : List V2) (r : Nat) : sTake [mT vs 0 locs r] = ([mT vs 0 locs r], zero2, 35) := by
  have e : ([mT vs 0 locs r] : List M) = [] ++ [mT vs 0 locs r] := rfl
  unfold sTake
  rw [e, onTop_snoc]
  simp [mT]
theorem mJ_mT (vs : List V2) (l r : Nat) (a b : Nat) : mJ vs l r a b = mT vs (min a r) (vs.take (min b l) ++ List.replicate (l - min b l) zero2) r := rfl
end Go.Proofs.Ytgdjhbnnkadjeaa
