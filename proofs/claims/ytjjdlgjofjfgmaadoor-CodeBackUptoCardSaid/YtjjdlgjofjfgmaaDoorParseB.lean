/-
  A sound instruction's text is read as it: plain laws.
-/
import Derived.Test.YtjjdlgjofjfgmaaDoorParseA
set_option linter.unusedSimpArgs false
set_option linter.unusedVariables false
namespace Go.Proofs.YtjjdlgjofjfgmaaDoor
open Go.RowKit

/-- A byte that is neither a blank nor an end of line. -/
def noWs (b : UInt8) : Prop := b.toNat ≠ 32 ∧ b.toNat ≠ 10
theorem clsB_no {b : UInt8} (h : clsB b) : noWs b := by
  unfold noWs
  rcases h with (h | h) | h
  · have := letterB_nums h; omega
  · have := digitB_nums h; omega
  · omega
theorem memberB_no {l : List UInt8} (h : memberB l = true) : ∀ b, b ∈ l → noWs b := by
  unfold memberB at h
  rw [Bool.or_eq_true, Bool.and_eq_true] at h
  intro b hb
  rcases h with h | h
  · have := of_decide_eq_true h
    subst this
    simp only [initB, List.mem_cons, List.not_mem_nil, or_false] at hb
    unfold noWs
    rcases hb with rfl | rfl | rfl | rfl | rfl | rfl <;> decide
  · exact clsB_no (.inl (partB_mem h.2 b hb))
theorem argsL_no : ∀ (k : Nat) (l : List UInt8) {n : Nat} {wd : Bool} {r : List UInt8}, argsL k l = some (n, wd, r) → ∀ b, b ∈ l → noWs b ∨ b ∈ r
  | 0, l, n, wd, r, h, b, hb => by simp [argsL] at h
  | k + 1, l, n, wd, r, h, b, hb => by
    unfold argsL at h
    split at h
    · rename_i ht
      cases h
      rw [takes_cons ht] at hb
      rcases List.mem_cons.1 hb with rfl | hb
      · left; unfold noWs; decide
      · exact .inr hb
    · cases ho : oneL l with
      | none => rw [ho] at h; simp at h
      | some p =>
        rw [ho] at h
        simp only at h
        cases ha : argsL k p.2 with
        | none => rw [ha] at h; simp at h
        | some q =>
          obtain ⟨qn, qw, qr⟩ := q
          rw [ha] at h
          simp at h
          obtain ⟨-, -, rfl⟩ := h
          rcases oneL_mem ho b hb with hc | hb
          · exact .inl (clsB_no hc)
          · exact argsL_no k p.2 ha b hb
theorem descL_no {l : List UInt8} (h : (descL l).2 = 0) : ∀ b, b ∈ l → noWs b := by
  unfold descL at h
  split at h
  · cases h
  · split at h
    · rename_i ht
      have hc := takes_cons ht
      have key : ∀ b, b ∈ l.tail → noWs b := by
        split at h
        · cases h
        · rename_i n wd r ha
          intro b hb
          rcases argsL_no _ _ ha b hb with hb | hb
          · exact hb
          · split at h
            · rename_i h86
              have hr := takes_cons h86
              split at h
              · rename_i hnil
                rw [hr, hnil] at hb
                simp only [List.mem_singleton] at hb
                subst hb
                unfold noWs
                decide
              · cases h
            · split at h
              · rename_i nm ho
                rcases oneL_mem ho b hb with hb | hb
                · exact clsB_no hb
                · cases hb
              · cases h
      intro b hb
      rw [hc] at hb
      rcases List.mem_cons.1 hb with rfl | hb
      · unfold noWs; decide
      · exact key b hb
    · cases h
theorem refText_no {r : RefL} (h : r.ok = true) : ∀ b, b ∈ r.text → noWs b := by
  unfold RefL.ok at h
  simp only [Bool.and_eq_true, decide_eq_true_eq] at h
  obtain ⟨⟨h1, h2⟩, h3⟩ := h
  intro b hb
  rw [text_eq] at hb
  rcases List.mem_append.1 hb with hb | hb
  · exact clsB_no (parseRefL_mem h1 b hb)
  · rcases List.mem_cons.1 hb with rfl | hb
    · unfold sepB noWs
      cases r.ifc <;> decide
    · rcases List.mem_append.1 hb with hb | hb
      · exact memberB_no h3 b hb
      · exact descL_no h2 b hb
theorem dec_no : ∀ u : Nat, ∀ b, b ∈ Lib.decDigits u → noWs b := by
  intro u
  induction u using Nat.strongRecOn with
  | ind u ih =>
    intro b hb
    rw [Lib.decDigits] at hb
    by_cases h : u < 10
    · rw [dif_pos h] at hb
      simp only [List.mem_singleton] at hb
      subst hb
      unfold noWs
      simp
      omega
    · rw [dif_neg h] at hb
      rcases List.mem_append.1 hb with hb | hb
      · exact ih (u / 10) (by omega) b hb
      · simp only [List.mem_singleton] at hb
        subst hb
        unfold noWs
        simp
        omega
theorem itoa_no (n : Int) : ∀ b, b ∈ Lib.itoa n → noWs b := by
  intro b hb
  unfold Lib.itoa at hb
  split at hb
  · rcases List.mem_cons.1 hb with rfl | hb
    · unfold noWs; decide
    · exact dec_no _ b hb
  · exact dec_no _ b hb
theorem word_no : ∀ o : Fin 41, (wordL (o.val : Int)).all (fun b => b.toNat != 32 && b.toNat != 10) = true := by decide +kernel
theorem wordL_no (o : Int) (h0 : 0 ≤ o) (h1 : o ≤ 40) : ∀ b, b ∈ wordL o → noWs b := by
  intro b hb
  have := word_no ⟨o.toNat, by omega⟩
  simp only at this
  rw [show ((o.toNat : Nat) : Int) = o by omega] at this
  have h := List.all_eq_true.1 this b hb
  unfold noWs
  simpa using h

/-- Joined with c and cut at c: the same, where no part holds c. -/
theorem split_join (c : UInt8) : ∀ ps : List (List UInt8), ps ≠ [] → (∀ p, p ∈ ps → c ∉ p) → splitL c (Lib.join ps [c]) = ps
  | [], h, _ => absurd rfl h
  | [a], _, hp => by
    have e : Lib.join [a] [c] = a := by simp [Lib.join, List.intercalate, List.intersperse]
    rw [e]
    exact splitL_none c a (hp a (by simp))
  | a :: b :: t, _, hp => by
    have e : Lib.join (a :: b :: t) [c] = a ++ c :: Lib.join (b :: t) [c] := by simp [Lib.join, List.intercalate, List.intersperse]
    rw [e, splitL_cut c a _ (hp a (by simp)), split_join c (b :: t) (by simp) (fun p h => hp p (List.mem_cons_of_mem _ h))]
/-- Cut at c and joined again. -/
theorem join_split (c : UInt8) (l : List UInt8) : Lib.join (splitL c l) [c] = l := by
  induction l using (measure List.length).wf.induction with
  | h l ih =>
    by_cases hc : c ∈ l
    · obtain ⟨a, b, rfl, ha⟩ := List.eq_append_cons_of_mem hc
      rw [splitL_cut c a b ha]
      have hb := ih b (by show b.length < (a ++ c :: b).length; simp; omega)
      have hne := splitL_ne c b
      cases hs : splitL c b with
      | nil => exact absurd hs hne
      | cons x t =>
        rw [hs] at hb
        rw [← hb]
        simp [Lib.join, List.intercalate, List.intersperse]
    · rw [splitL_none c l hc]
      simp [Lib.join, List.intercalate, List.intersperse]

theorem ty_no {i : InstL} (hk : kindL i.op = 4 ∨ kindL i.op = 5 ∨ kindL i.op = 6 ∨ kindL i.op = 7) (hf : i.fine = true) : ∀ b, b ∈ i.ty → noWs b := by
  intro b hb
  unfold InstL.fine at hf
  rcases hk with hk | hk | hk | hk
  · rw [hk] at hf
    simp at hf
    exact clsB_no (validB_mem hf b hb)
  · rw [hk] at hf
    simp at hf
    exact clsB_no (parseRefL_mem hf b hb)
  · rw [hk] at hf
    simp at hf
    exact clsB_no (parseL_mem hf.1 b hb)
  · rw [hk] at hf
    simp at hf
    exact clsB_no (parseRefL_mem hf.1 b hb)

theorem parts_no {i : InstL} (h : i.ok = true) : ∀ p, p ∈ i.parts → ∀ b, b ∈ p → noWs b := by
  obtain ⟨h1, h2, h3, h4⟩ := InstL.ok_ty h
  have hop : 1 ≤ i.op ∧ i.op ≤ 40 := run_known i.op rfl h3
  obtain ⟨-, hf⟩ := InstL.ok_fine h
  intro p hp b hb
  unfold InstL.parts at hp
  rcases List.mem_cons.1 hp with rfl | hp
  · exact wordL_no i.op (by omega) hop.2 b hb
  · rcases List.mem_append.1 hp with hp | hp
    · split at hp
      · simp only [List.mem_singleton] at hp
        subst hp
        exact itoa_no _ b hb
      · split at hp
        · rename_i hk8
          simp only [List.mem_singleton] at hp
          subst hp
          exact refText_no (h4 hk8) b hb
        · cases hp
    · split at hp
      · cases hp
      · rename_i hne
        simp only [List.mem_singleton] at hp
        subst hp
        have hk : kindL i.op = 4 ∨ kindL i.op = 5 ∨ kindL i.op = 6 ∨ kindL i.op = 7 := by
          refine Classical.byContradiction fun hn => hne (h2.2 hn)
        exact ty_no hk hf b hb
theorem parts_ne (i : InstL) : i.parts ≠ [] := by unfold InstL.parts; simp
theorem text_split {i : InstL} (h : i.ok = true) : splitL 32 i.text = i.parts := by
  unfold InstL.text
  refine split_join 32 i.parts (parts_ne i) fun p hp hm => ?_
  exact (parts_no h p hp 32 hm).1 rfl

/-- A sound instruction's text is read as it. -/
theorem parseJ_text {i : InstL} (h : i.ok = true) (hn : i.num) : parseJ i.text = i := by
  obtain ⟨h1, h2, h3, h4⟩ := InstL.ok_ty h
  have hop : 1 ≤ i.op ∧ i.op ≤ 40 := run_known i.op rfl h3
  obtain ⟨hb, hf⟩ := InstL.ok_fine h
  have hw := opN_word ⟨i.op.toNat, by omega⟩ (by show 1 ≤ i.op.toNat; omega)
  simp only at hw
  rw [show ((i.op.toNat : Nat) : Int) = i.op by omega] at hw
  unfold parseJ
  rw [text_split h]
  have e0 : (i.parts).headD [] = wordL i.op := by unfold InstL.parts; rfl
  simp only [e0, hw]
  rw [show ((i.op.toNat : Nat) : Int) = i.op by omega]
  have ha := atoiV_itoa i.n hn.1 hn.2
  obtain ⟨op, n, tx, r⟩ := i
  unfold InstL.bare at hb
  unfold InstL.parts
  simp only at h1 h2 h3 h4 hop hb ha ⊢
  by_cases k1 : kindL op = 1 ∨ kindL op = 2 ∨ kindL op = 3
  · have k7 : (kindL op = 1 ∨ kindL op = 2 ∨ kindL op = 3 ∨ kindL op = 7) := by omega
    have k4 : ¬ (kindL op = 4 ∨ kindL op = 5 ∨ kindL op = 6 ∨ kindL op = 7) := by omega
    have k8 : ¬ kindL op = 8 := by omega
    have htx : tx = [] := h2.2 k4
    simp only [k7, k4, k8, if_true, if_false, true_and, htx, List.append_nil] at hb ⊢
    rw [if_pos (by simp)]
    simp only [InstL.mk.injEq, true_and]
    refine ⟨by simpa using ha, ?_⟩
    rw [if_pos k1] at hb
    simpa using hb
  · rw [if_neg k1] at hb
    by_cases k4 : kindL op = 4 ∨ kindL op = 5 ∨ kindL op = 6
    · rw [if_pos k4] at hb
      have k4' : kindL op = 4 ∨ kindL op = 5 ∨ kindL op = 6 ∨ kindL op = 7 := by omega
      have k7 : ¬ (kindL op = 1 ∨ kindL op = 2 ∨ kindL op = 3 ∨ kindL op = 7) := by omega
      have k8 : ¬ kindL op = 8 := by omega
      have htx : ¬ tx = [] := fun e => (h2.1 e) k4'
      simp only [InstL.mk.injEq, true_and] at hb
      simp only [k4', k7, k8, htx, if_true, if_false, false_and, List.nil_append, InstL.mk.injEq, true_and]
      exact ⟨hb.1, by simp, hb.2⟩
    · rw [if_neg k4] at hb
      by_cases k7 : kindL op = 7
      · rw [if_pos k7] at hb
        have k7' : kindL op = 1 ∨ kindL op = 2 ∨ kindL op = 3 ∨ kindL op = 7 := by omega
        have k4' : kindL op = 4 ∨ kindL op = 5 ∨ kindL op = 6 ∨ kindL op = 7 := by omega
        have k8 : ¬ kindL op = 8 := by omega
        have htx : ¬ tx = [] := fun e => (h2.1 e) k4'
        simp only [InstL.mk.injEq, true_and] at hb
        simp only [k4', k7', k8, htx, if_true, if_false, true_and, InstL.mk.injEq]
        rw [if_pos (by simp)]
        exact ⟨by simpa using ha, by simp, hb⟩
      · rw [if_neg k7] at hb
        have k7' : ¬ (kindL op = 1 ∨ kindL op = 2 ∨ kindL op = 3 ∨ kindL op = 7) := by omega
        have k4' : ¬ (kindL op = 4 ∨ kindL op = 5 ∨ kindL op = 6 ∨ kindL op = 7) := by omega
        have htx : tx = [] := h2.2 k4'
        by_cases k8 : kindL op = 8
        · rw [if_pos k8] at hb
          have hr := refOut_ok (h4 k8)
          simp only [InstL.mk.injEq, true_and] at hb
          simp only [k4', k7', k8, htx, if_true, if_false, false_and, List.append_nil, InstL.mk.injEq, true_and]
          exact ⟨hb.1, by simp [hr]⟩
        · rw [if_neg k8] at hb
          simp only [InstL.mk.injEq, true_and] at hb
          simp only [k4', k7', k8, htx, if_true, if_false, false_and, List.append_nil, InstL.mk.injEq, true_and]
          exact ⟨hb.1, hb.2.2⟩
theorem parseOut_text {i : InstL} (h : i.ok = true) (hn : i.num) : parseOut i.text = (i, 0) := by
  unfold parseOut
  rw [parseJ_text h hn, h]
  simp
theorem parseOut_good {l : List UInt8} (h : (parseOut l).2 = 0) : (parseOut l).1.ok = true ∧ (parseOut l).1.text = l ∧ (parseOut l).1 = parseJ l := by
  unfold parseOut at h ⊢
  split at h
  · rename_i hc
    rw [if_pos hc]
    simp only [Bool.and_eq_true, decide_eq_true_eq] at hc
    exact ⟨hc.1, hc.2, rfl⟩
  · simp at h
theorem parseOut_bad {l : List UInt8} (h : (parseOut l).2 ≠ 0) : parseOut l = (⟨0, 0, [], noRefL⟩, 4) := by
  unfold parseOut at h ⊢
  split at h
  · simp at h
  · rename_i hc
    rw [if_neg hc]
end Go.Proofs.YtjjdlgjofjfgmaaDoor
