/-
  What bytes a sound reference is made of; its text cut up again. No program text.
-/
import Derived.Test.YtjjdlgjofjfgmaaDoorCodeB
set_option linter.unusedSimpArgs false
set_option linter.unusedVariables false
namespace Go.Proofs.YtjjdlgjofjfgmaaDoor
open Go.RowKit

/-- A byte of a class's or an array's text. -/
def clsB (b : UInt8) : Prop := (letterB b.toNat = true ∨ digitB b.toNat = true) ∨ b.toNat = 47 ∨ b.toNat = 91 ∨ b.toNat = 59
theorem charB_or {c : Nat} {f : Bool} (h : charB c f = true) : letterB c = true ∨ digitB c = true := by
  unfold charB at h
  rw [Bool.or_eq_true, Bool.and_eq_true] at h
  rcases h with h | h
  · exact .inl h
  · exact .inr h.2
theorem partFrom_mem : ∀ (i : Nat) (l : List UInt8), partFrom i l = true → ∀ b, b ∈ l → letterB b.toNat = true ∨ digitB b.toNat = true
  | _, [], _, b, hb => by cases hb
  | i, c :: t, h, b, hb => by
    unfold partFrom at h
    rw [Bool.and_eq_true] at h
    rcases List.mem_cons.1 hb with rfl | hb
    · exact charB_or h.1
    · exact partFrom_mem (i + 1) t h.2 b hb
theorem partB_mem {l : List UInt8} (h : partB l = true) : ∀ b, b ∈ l → letterB b.toNat = true ∨ digitB b.toNat = true := by
  unfold partB at h
  rw [Bool.and_eq_true] at h
  exact partFrom_mem 0 l h.1
theorem splitL_mem (c : UInt8) : ∀ (l : List UInt8) (b : UInt8), b ∈ l → b = c ∨ ∃ p, p ∈ splitL c l ∧ b ∈ p
  | [], b, hb => by cases hb
  | x :: t, b, hb => by
    unfold splitL
    by_cases hx : (x == c) = true
    · rw [if_pos hx]
      rcases List.mem_cons.1 hb with rfl | hb
      · exact .inl (by simpa using hx)
      · rcases splitL_mem c t b hb with h | ⟨p, h1, h2⟩
        · exact .inl h
        · exact .inr ⟨p, List.mem_cons_of_mem _ h1, h2⟩
    · rw [if_neg hx]
      have hne := splitL_ne c t
      rcases List.mem_cons.1 hb with rfl | hb
      · exact .inr ⟨_, List.mem_cons_self .., List.mem_cons_self ..⟩
      · rcases splitL_mem c t b hb with h | ⟨p, h1, h2⟩
        · exact .inl h
        · right
          cases hs : splitL c t with
          | nil => exact absurd hs hne
          | cons q r =>
            rw [hs] at h1
            rcases List.mem_cons.1 h1 with rfl | h1
            · exact ⟨_, List.mem_cons_self .., by simp [h2]⟩
            · exact ⟨p, by simp [h1], h2⟩
theorem validB_mem {l : List UInt8} (h : validB l = true) : ∀ b, b ∈ l → clsB b := by
  unfold validB at h
  rw [Bool.and_eq_true, List.all_eq_true] at h
  intro b hb
  rcases splitL_mem 47 l b hb with rfl | ⟨p, h1, h2⟩
  · exact .inr (.inl rfl)
  · exact .inl (partB_mem (h.2 p h1) b h2)
theorem cutL_mem {c : UInt8} : ∀ {l : List UInt8} {p}, cutL c l = some p → ∀ b, b ∈ l → b ∈ p.1 ∨ b = c ∨ b ∈ p.2
  | [], p, h, b, hb => by cases hb
  | x :: t, p, h, b, hb => by
    unfold cutL at h
    split at h
    · rename_i hx
      cases h
      rcases List.mem_cons.1 hb with rfl | hb
      · exact .inr (.inl hx)
      · exact .inr (.inr hb)
    · cases ht : cutL c t with
      | none => rw [ht] at h; simp at h
      | some q =>
        rw [ht] at h
        simp at h
        subst h
        rcases List.mem_cons.1 hb with rfl | hb
        · exact .inl (List.mem_cons_self ..)
        · rcases cutL_mem ht b hb with h | h
          · exact .inl (List.mem_cons_of_mem _ h)
          · exact .inr h
theorem letter73 : letterB 73 = true := by decide
theorem letter76 : letterB 76 = true := by decide
theorem bareL_mem {l : List UInt8} {p} (h : bareL l = some p) : ∀ b, b ∈ l → clsB b ∨ b ∈ p.2 := by
  cases l with
  | nil => simp [bareL] at h
  | cons c t =>
    simp only [bareL] at h
    split at h
    · rename_i hc
      cases h
      intro b hb
      rcases List.mem_cons.1 hb with rfl | hb
      · subst hc; exact .inl (.inl (.inl letter73))
      · exact .inr hb
    · split at h
      · rename_i hc
        cases hq : cutL 59 t with
        | none => rw [hq] at h; simp at h
        | some q =>
          rw [hq] at h
          simp only [Option.bind_some] at h
          split at h
          · rename_i hv
            cases h
            intro b hb
            rcases List.mem_cons.1 hb with rfl | hb
            · subst hc; exact .inl (.inl (.inl letter76))
            · rcases cutL_mem hq b hb with h | rfl | h
              · exact .inl (validB_mem hv b h)
              · exact .inl (.inr (.inr (.inr rfl)))
              · exact .inr h
          · cases h
      · cases h
theorem lead_mem : ∀ (l : List UInt8) (b : UInt8), b ∈ l → b = 91 ∨ b ∈ l.drop (lead l)
  | [], b, hb => by cases hb
  | c :: t, b, hb => by
    unfold lead
    split
    · rename_i hc
      rcases List.mem_cons.1 hb with rfl | hb
      · exact .inl hc
      · rw [List.drop_succ_cons]
        exact lead_mem t b hb
    · exact .inr hb
theorem oneL_mem {l : List UInt8} {p} (h : oneL l = some p) : ∀ b, b ∈ l → clsB b ∨ b ∈ p.2 := by
  intro b hb
  rcases lead_mem l b hb with rfl | hb
  · exact .inl (.inr (.inr (.inl rfl)))
  · exact bareL_mem h b hb
theorem parseL_mem {l : List UInt8} (h : (parseL l).2.2 = 0) : ∀ b, b ∈ l → clsB b := by
  unfold parseL at h
  split at h
  · cases h
  · split at h
    · rename_i nm ho
      intro b hb
      rcases oneL_mem ho b hb with hb | hb
      · exact hb
      · cases hb
    · cases h
theorem parseRefL_mem {l : List UInt8} (h : (parseRefL l).2.2 = 0) : ∀ b, b ∈ l → clsB b := by
  unfold parseRefL at h
  split at h
  · exact parseL_mem h
  · split at h
    · cases h
    · split at h
      · rename_i hv
        exact validB_mem hv
      · cases h
theorem letterB_nums {c : Nat} (h : letterB c = true) : (97 ≤ c ∧ c ≤ 122) ∨ (65 ≤ c ∧ c ≤ 90) ∨ c = 95 ∨ c = 36 := by
  unfold letterB at h
  simp only [Bool.or_eq_true, decide_eq_true_eq] at h
  omega
theorem digitB_nums {c : Nat} (h : digitB c = true) : 48 ≤ c ∧ c ≤ 57 := of_decide_eq_true h
theorem name_nums {c : Nat} (h : letterB c = true ∨ digitB c = true) : c < 128 ∧ c ≠ 46 ∧ c ≠ 58 ∧ c ≠ 40 := by
  rcases h with h | h
  · have := letterB_nums h; omega
  · have := digitB_nums h; omega
theorem clsB_nums {b : UInt8} (h : clsB b) : b.toNat < 128 ∧ b.toNat ≠ 46 ∧ b.toNat ≠ 58 ∧ b.toNat ≠ 40 := by
  rcases h with h | h
  · exact name_nums h
  · omega
theorem memberB_nums {l : List UInt8} (h : memberB l = true) : ∀ b, b ∈ l → b.toNat < 128 ∧ b.toNat ≠ 40 := by
  unfold memberB at h
  rw [Bool.or_eq_true, Bool.and_eq_true] at h
  intro b hb
  rcases h with h | h
  · have := of_decide_eq_true h
    subst this
    simp only [initB, List.mem_cons, List.not_mem_nil, or_false] at hb
    rcases hb with rfl | rfl | rfl | rfl | rfl | rfl <;> decide
  · have := name_nums (partB_mem h.2 b hb)
    exact ⟨this.1, this.2.2.2⟩
theorem takes_cons {c : UInt8} {l : List UInt8} (h : takes c l = true) : l = c :: l.tail := by
  unfold takes at h
  cases l with
  | nil => simp at h
  | cons x t => simp at h; simp [h]
theorem argsL_mem : ∀ (k : Nat) (l : List UInt8) {n : Nat} {wd : Bool} {r : List UInt8}, argsL k l = some (n, wd, r) → ∀ b, b ∈ l → b.toNat < 128 ∨ b ∈ r
  | 0, l, n, wd, r, h, b, hb => by simp [argsL] at h
  | k + 1, l, n, wd, r, h, b, hb => by
    unfold argsL at h
    split at h
    · rename_i ht
      cases h
      rw [takes_cons ht] at hb
      rcases List.mem_cons.1 hb with rfl | hb
      · left; decide
      · exact .inr hb
    · cases ho : oneL l with
      | none => rw [ho] at h; simp at h
      | some p =>
        rw [ho] at h
        simp only at h
        cases ha : argsL k p.2 with
        | none => rw [ha] at h; simp at h
        | some q =>
          obtain ⟨qn, qw, qr⟩ := q
          rw [ha] at h
          simp at h
          obtain ⟨-, -, rfl⟩ := h
          rcases oneL_mem ho b hb with hc | hb
          · exact .inl (clsB_nums hc).1
          · exact argsL_mem k p.2 ha b hb
theorem descL_mem {l : List UInt8} (h : (descL l).2 = 0) : (∃ t, l = 40 :: t) ∧ ∀ b, b ∈ l → b.toNat < 128 := by
  unfold descL at h
  split at h
  · cases h
  · split at h
    · rename_i ht
      have hc := takes_cons ht
      have key : ∀ b, b ∈ l.tail → b.toNat < 128 := by
        split at h
        · cases h
        · rename_i n wd r ha
          intro b hb
          rcases argsL_mem _ _ ha b hb with hb | hb
          · exact hb
          · split at h
            · rename_i h86
              have hr := takes_cons h86
              split at h
              · rename_i hnil
                rw [hr, hnil] at hb
                simp only [List.mem_singleton] at hb
                subst hb
                decide
              · cases h
            · split at h
              · rename_i nm ho
                rcases oneL_mem ho b hb with hb | hb
                · exact (clsB_nums hb).1
                · cases hb
              · cases h
      refine ⟨⟨_, hc⟩, fun b hb => ?_⟩
      rw [hc] at hb
      rcases List.mem_cons.1 hb with rfl | hb
      · decide
      · exact key b hb
    · cases h

theorem indexByte_at (c : UInt8) : ∀ (a b : List UInt8), c ∉ a → Lib.indexByte (a ++ c :: b) c = a.length
  | [], b, _ => by simp [Lib.indexByte]
  | x :: t, b, h => by
    simp only [List.mem_cons, not_or] at h
    have ih := indexByte_at c t b h.2
    rw [List.cons_append]
    unfold Lib.indexByte
    rw [if_neg (by simpa using fun e => h.1 e.symm), ih, if_neg (by simp)]
    simp
theorem indexAny_at (cs : List UInt8) (y : UInt8) (hy : cs.contains y = true) : ∀ (a b : List UInt8), (∀ x, x ∈ a → cs.contains x = false) → Lib.indexAny (a ++ y :: b) cs = a.length
  | [], b, _ => by simp only [List.nil_append, Lib.indexAny]; rw [if_pos hy]; rfl
  | x :: t, b, h => by
    have ih := indexAny_at cs y hy t b (fun z hz => h z (List.mem_cons_of_mem _ hz))
    rw [List.cons_append]
    unfold Lib.indexAny
    rw [if_neg (by rw [h x (List.mem_cons_self ..)]; simp), ih, if_neg (by simp)]
    simp

/-- A sound reference's text: where its parts lie. -/
def sepB (r : RefL) : UInt8 := if r.ifc then 58 else 46
theorem text_eq (r : RefL) : r.text = r.cls ++ sepB r :: (r.nm ++ r.ds) := by
  unfold RefL.text sepB
  cases r.ifc <;> simp
structure Sound (r : RefL) : Prop where
  small : r.text.length ≤ 4061
  ascii : ∀ (j : Nat) b, r.text[j]? = some b → b.toNat < 128
  dot : Lib.indexAny r.text [46, 58] = r.cls.length
  opens : Lib.indexByte r.text 40 = ((r.cls.length + 1 + r.nm.length : Nat) : Int)
theorem sound_of {r : RefL} (h : r.ok = true) : Sound r := by
  have hle := RefL.ok_le h
  unfold RefL.ok at h
  simp only [Bool.and_eq_true, decide_eq_true_eq] at h
  obtain ⟨⟨h1, h2⟩, h3⟩ := h
  have hc := parseRefL_mem h1
  obtain ⟨⟨t, ht⟩, hd⟩ := descL_mem h2
  have hn := memberB_nums h3
  have hs : sepB r = 58 ∨ sepB r = 46 := by unfold sepB; cases r.ifc <;> simp
  rw [show (Sound r) = Sound r from rfl]
  refine ⟨?_, ?_, ?_, ?_⟩
  · rw [text_eq]; simp; omega
  · intro j b hb
    have hb := List.mem_of_getElem? hb
    rw [text_eq] at hb
    rcases List.mem_append.1 hb with hb | hb
    · exact (clsB_nums (hc b hb)).1
    · rcases List.mem_cons.1 hb with rfl | hb
      · rcases hs with e | e <;> rw [e] <;> decide
      · rcases List.mem_append.1 hb with hb | hb
        · exact (hn b hb).1
        · exact hd b hb
  · rw [text_eq]
    refine indexAny_at _ _ (by rcases hs with e | e <;> rw [e] <;> decide) _ _ (fun x hx => ?_)
    have := clsB_nums (hc x hx)
    simp only [List.contains_eq_mem, decide_eq_false_iff_not, List.mem_cons, List.not_mem_nil, or_false, not_or]
    refine ⟨?_, ?_⟩
    · rintro rfl; exact this.2.1 rfl
    · rintro rfl; exact this.2.2.1 rfl
  · rw [text_eq, ht, show r.cls ++ sepB r :: (r.nm ++ 40 :: t) = (r.cls ++ sepB r :: r.nm) ++ 40 :: t by simp]
    rw [indexByte_at]
    · simp; omega
    · intro hx
      rcases List.mem_append.1 hx with hx | hx
      · exact (clsB_nums (hc _ hx)).2.2.2 rfl
      · rcases List.mem_cons.1 hx with hx | hx
        · rcases hs with e | e <;> rw [e] at hx <;> cases hx
        · exact (hn _ hx).2 rfl
end Go.Proofs.YtjjdlgjofjfgmaaDoor
