/-
  Lists of bytes cut at one byte. No program text.
-/
import Derived.Lib.Split
import Derived.Lib.IndexMore
set_option linter.unusedSimpArgs false
set_option linter.unusedVariables false
namespace Go.Proofs.YtjjdlgjofjfgmaaDoor

/-- A text cut at each byte c. -/
def splitL (c : UInt8) : List UInt8 → List (List UInt8)
  | [] => [[]]
  | x :: t => if x == c then [] :: splitL c t else (x :: (splitL c t).headD []) :: (splitL c t).tail

theorem splitL_ne (c : UInt8) (l : List UInt8) : splitL c l ≠ [] := by
  cases l with
  | nil => simp [splitL]
  | cons x t => unfold splitL; split <;> simp
theorem splitL_none (c : UInt8) (l : List UInt8) (h : c ∉ l) : splitL c l = [l] := by
  induction l with
  | nil => rfl
  | cons x t ih =>
    simp only [List.mem_cons, not_or] at h
    unfold splitL
    rw [if_neg (by simpa using fun e => h.1 e.symm), ih h.2]
    rfl
theorem splitL_cut (c : UInt8) (a b : List UInt8) (h : c ∉ a) : splitL c (a ++ c :: b) = a :: splitL c b := by
  induction a with
  | nil => simp [splitL]
  | cons x t ih =>
    simp only [List.mem_cons, not_or] at h
    have hx : (x == c) = false := by simpa using fun e => h.1 (Eq.symm e)
    have e : splitL c ((x :: t) ++ c :: b) = (x :: (splitL c (t ++ c :: b)).headD []) :: (splitL c (t ++ c :: b)).tail := by
      rw [List.cons_append, splitL, hx]
      rfl
    rw [e, ih h.2]
    rfl
theorem index_one (c : UInt8) (s : List UInt8) : (Lib.index s [c] = -1 ∧ c ∉ s) ∨ ∃ a b, s = a ++ c :: b ∧ c ∉ a ∧ Lib.index s [c] = a.length := by
  induction s with
  | nil => exact .inl ⟨rfl, by simp⟩
  | cons x t ih =>
    by_cases hx : x = c
    · subst hx
      exact .inr ⟨[], t, rfl, by simp, by simp [Lib.index]⟩
    · have hx' : ¬ c = x := fun e => hx (Eq.symm e)
      have hp : ([c] : List UInt8).isPrefixOf (x :: t) = false := by simp [List.isPrefixOf, hx']
      rcases ih with ⟨h1, h2⟩ | ⟨a, b, rfl, h2, h3⟩
      · left
        refine ⟨?_, by simp [h2, hx']⟩
        unfold Lib.index
        rw [hp, h1]
        rfl
      · right
        refine ⟨x :: a, b, rfl, by simp [h2, hx'], ?_⟩
        unfold Lib.index
        rw [hp, h3]
        have : ((a.length : Int) == -1) = false := by simp
        simp [this]
theorem splitK_one (c : UInt8) : ∀ (n : Nat) (s : List UInt8), s.count c ≤ n → Lib.splitK [c] 0 n s = splitL c s := by
  intro n
  induction n with
  | zero =>
    intro s h
    rw [splitL_none c s (List.count_eq_zero.1 (by omega))]
    rfl
  | succ n ih =>
    intro s h
    unfold Lib.splitK
    rcases index_one c s with ⟨h1, h2⟩ | ⟨a, b, rfl, h2, h3⟩
    · rw [h1, splitL_none c s h2]; rfl
    · rw [h3, splitL_cut c a b h2]
      have h4 : ((a.length : Int) == -1) = false := by simp
      rw [h4]
      have h5 : List.count c a = 0 := List.count_eq_zero.2 h2
      have h6 : b.count c ≤ n := by simp [h5] at h; omega
      simp only [Int.toNat_natCast, Nat.add_zero]
      rw [show (a ++ c :: b).drop (a.length + [c].length) = b by simp [List.drop_append], ih b h6]
      simp
theorem countFrom_one (c : UInt8) : ∀ (fuel : Nat) (s : List UInt8), s.length < fuel → Lib.countFrom [c] fuel s = s.count c := by
  intro fuel
  induction fuel with
  | zero => intro s h; omega
  | succ n ih =>
    intro s h
    unfold Lib.countFrom
    rcases index_one c s with ⟨h1, h2⟩ | ⟨a, b, rfl, h2, h3⟩
    · rw [h1, List.count_eq_zero.2 h2]; rfl
    · rw [h3]
      have h4 : ((a.length : Int) == -1) = false := by simp
      rw [h4]
      have h5 : List.count c a = 0 := List.count_eq_zero.2 h2
      simp only [Int.toNat_natCast]
      rw [show (a ++ c :: b).drop (a.length + [c].length) = b by simp [List.drop_append], ih b (by simp at h; omega)]
      simp [h5]
      omega
theorem count_one (c : UInt8) (s : List UInt8) : Lib.count s [c] = s.count c := countFrom_one c _ s (by omega)
theorem split_one (c : UInt8) (s : List UInt8) : Lib.splitK [c] 0 (Lib.count s [c]) s = splitL c s := splitK_one c _ s (by rw [count_one]; omega)
theorem splitL_length (c : UInt8) (s : List UInt8) : (splitL c s).length = s.count c + 1 := by
  induction s with
  | nil => rfl
  | cons x t ih =>
    unfold splitL
    by_cases hx : x = c
    · subst hx
      simp [ih]
    · rw [if_neg (by simpa using hx), List.count_cons_of_ne (by simpa using hx)]
      simp [ih]
theorem splitL_le (c : UInt8) (s : List UInt8) : ∀ p, p ∈ splitL c s → p.length ≤ s.length := by
  induction s with
  | nil => intro p hp; simp [splitL] at hp; simp [hp]
  | cons x t ih =>
    intro p hp
    unfold splitL at hp
    split at hp
    · simp only [List.mem_cons] at hp
      rcases hp with rfl | hp
      · simp
      · have := ih p hp; simp; omega
    · simp only [List.mem_cons] at hp
      rcases hp with rfl | hp
      · have : ((splitL c t).headD []).length ≤ t.length := by
          cases h : splitL c t with
          | nil => simp
          | cons a r => exact ih a (by rw [h]; simp)
        show (x :: (splitL c t).headD []).length ≤ (x :: t).length
        rw [List.length_cons, List.length_cons]; omega
      · have := ih p (List.mem_of_mem_tail hp); simp; omega
end Go.Proofs.YtjjdlgjofjfgmaaDoor
