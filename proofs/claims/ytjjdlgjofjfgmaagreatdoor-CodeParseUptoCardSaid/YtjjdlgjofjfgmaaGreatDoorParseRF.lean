/-
  The document's reading of a line is package code's: plain laws.
-/
import Derived.Test.YtjjdlgjofjfgmaaGreatDoorParseRE
set_option linter.unusedSimpArgs false
set_option linter.unusedVariables false
namespace Go.Proofs.YtjjdlgjofjfgmaaGreatDoor
open Go.RowKit

/-- What the document's Parse puts together out of a line's words; whether number and reference are fine; how many words are wanted. -/
def docN (k : Int) (ps : List (List UInt8)) : Bool := decide (((k = 1 ∨ k = 2 ∨ k = 3) ∧ ps.length = 2) ∨ (k = 7 ∧ ps.length = 3))
def docI (l : List UInt8) : InstL :=
  let ps := splitL 32 l
  let op := opN (ps.headD [])
  let k := kindL op
  ⟨op, if docN k ps then (numOut (ps.getD 1 [])).1 else 0, if k = 4 ∨ k = 5 ∨ k = 6 then ps.getLastD [] else if k = 7 ∧ ps.length = 3 then ps.getD 2 [] else [], if k = 8 ∧ ps.length = 2 then (refOut (ps.getD 1 [])).1 else noRefL⟩
def docF (l : List UInt8) : Bool :=
  let ps := splitL 32 l
  let k := kindL (opN (ps.headD []))
  if docN k ps then (numOut (ps.getD 1 [])).2 else if k = 8 ∧ ps.length = 2 then decide ((refOut (ps.getD 1 [])).2 = 0) else true
def docW (l : List UInt8) : Nat :=
  let k := kindL (opN ((splitL 32 l).headD []))
  if k = -1 ∨ k = 0 then 1 else if k = 7 then 3 else 2
def docOut (l : List UInt8) : InstL × Int := if (docF l && decide ((splitL 32 l).length = docW l)) && (docI l).ok then (docI l, 0) else (⟨0, 0, [], noRefL⟩, 4)

theorem opL_word (hd : List UInt8) : ∀ k, opL hd k = 0 ∨ wordL ((opL hd k : Nat) : Int) = hd
  | 0 => .inl rfl
  | k + 1 => by
    unfold opL
    split
    · rename_i h
      exact .inr h.2
    · exact opL_word hd k
theorem opN_word2 {hd : List UInt8} (h : 1 ≤ opN hd) : wordL ((opN hd : Nat) : Int) = hd := by
  rcases opL_word hd 41 with h1 | h1
  · unfold opN at h
    omega
  · exact h1
theorem len1 {α : Type} {d : α} {ps : List α} (h : ps.length = 1) : ps = [ps.headD d] := by
  match ps, h with
  | [a], _ => rfl
theorem len2 {α : Type} {d : α} {ps : List α} (h : ps.length = 2) : ps = [ps.headD d, ps.getD 1 d] ∧ ps.getLastD d = ps.getD 1 d := by
  match ps, h with
  | [a, b], _ => exact ⟨rfl, rfl⟩
theorem len3 {α : Type} {d : α} {ps : List α} (h : ps.length = 3) : ps = [ps.headD d, ps.getD 1 d, ps.getD 2 d] := by
  match ps, h with
  | [a, b, c], _ => rfl

theorem doc_good {l : List UInt8} (hf : docF l = true) (hw : (splitL 32 l).length = docW l) (hok : (docI l).ok = true) : (docI l).text = l ∧ (docI l).num := by
  obtain ⟨h1, h2, h3, h4⟩ := InstL.ok_ty hok
  have hop : 1 ≤ (docI l).op ∧ (docI l).op ≤ 40 := run_known _ rfl h3
  have hj := join_split 32 l
  have hwd : wordL ((opN ((splitL 32 l).headD []) : Nat) : Int) = (splitL 32 l).headD [] := opN_word2 (by have := hop.1; unfold docI at this; simp only at this; omega)
  refine ⟨?_, ?_⟩
  · unfold InstL.text
    refine Eq.trans ?_ hj
    congr 1
    unfold InstL.parts
    unfold docI docF docW at *
    simp only at *
    rw [hwd]
    have hkc := kindL_cases ((opN ((splitL 32 l).headD []) : Nat) : Int)
    generalize kindL ((opN ((splitL 32 l).headD []) : Nat) : Int) = k at *
    generalize splitL 32 l = ps at *
    unfold docN at *
    clear hj
    rcases Classical.em (k = -1 ∨ k = 0) with k0 | k0
    · rw [if_pos k0] at hw
      obtain ⟨x, rfl⟩ : ∃ a, ps = [a] := by match ps, hw with | [a], _ => exact ⟨a, rfl⟩
      have hk : k = 0 := by omega
      subst hk
      simp
    · rw [if_neg k0] at hw
      rcases Classical.em (k = 7) with k7 | k7
      · subst k7
        rw [if_pos rfl] at hw
        obtain ⟨x, y, z, rfl⟩ : ∃ a b c, ps = [a, b, c] := by match ps, hw with | [a, b, c], _ => exact ⟨a, b, c, rfl⟩
        simp at hf h2 ⊢
        rw [(numOut_good hf).1]
        exact ⟨rfl, h2⟩
      · rw [if_neg k7] at hw
        obtain ⟨x, y, rfl⟩ : ∃ a b, ps = [a, b] := by match ps, hw with | [a, b], _ => exact ⟨a, b, rfl⟩
        rcases Classical.em (k = 1 ∨ k = 2 ∨ k = 3) with k1 | k1
        · have k4 : ¬ (k = 4 ∨ k = 5 ∨ k = 6) := by omega
          have k17 : (k = 1 ∨ k = 2 ∨ k = 3 ∨ k = 7) := by omega
          have k8 : ¬ k = 8 := by omega
          simp [k1, k4, k7, k8, k17] at hf ⊢
          exact (numOut_good hf).1
        · have k17 : ¬ (k = 1 ∨ k = 2 ∨ k = 3 ∨ k = 7) := by omega
          rcases Classical.em (k = 4 ∨ k = 5 ∨ k = 6) with k4 | k4
          · have k8 : ¬ k = 8 := by omega
            have k4' : (k = 4 ∨ k = 5 ∨ k = 6 ∨ k = 7) := by omega
            have h2' : ¬ (y = []) := by
              intro hn
              rw [if_pos k4] at h2
              exact (h2.1 hn) k4'
            simp [k1, k4, k7, k8, k17, h2']
          · by_cases k8 : k = 8
            · subst k8
              simp at hf ⊢
              exact (refOut_good hf).2
            · exfalso
              omega
  · unfold InstL.num docI
    simp only
    split
    · have := numOut_bad (l := (splitL 32 l).getD 1 [])
      omega
    · omega

theorem dims_le (l : List UInt8) : (parseRefL l).2.2 = 0 → (parseRefL l).1 ≤ 255 := by
  intro h
  unfold parseRefL at h ⊢
  split at h
  · rename_i hh
    rw [if_pos hh]
    unfold parseL at h ⊢
    split at h
    · simp at h
    · rename_i h2
      rw [if_neg h2]
      split at h
      · split at h
        · simp at h
        · rename_i nm heq h3
          rw [if_neg h3]
          simp only
          omega
      · simp at h
  · rename_i hh
    rw [if_neg hh]
    split
    · simp
    · split <;> simp
theorem doc_of {i : InstL} (h : i.ok = true) (hn : i.num) : docI i.text = i ∧ docF i.text = true ∧ (splitL 32 i.text).length = docW i.text := by
  obtain ⟨h1, h2, h3, h4⟩ := InstL.ok_ty h
  have hop : 1 ≤ i.op ∧ i.op ≤ 40 := run_known i.op rfl h3
  obtain ⟨hb, hf⟩ := InstL.ok_fine h
  have hw := opN_word ⟨i.op.toNat, by omega⟩ (by show 1 ≤ i.op.toNat; omega)
  simp only at hw
  rw [show ((i.op.toNat : Nat) : Int) = i.op by omega] at hw
  unfold docI docF docW
  rw [text_split h]
  have e0 : (i.parts).headD [] = wordL i.op := by unfold InstL.parts; rfl
  simp only [e0, hw]
  rw [show ((i.op.toNat : Nat) : Int) = i.op by omega]
  obtain ⟨op, n, tx, r⟩ := i
  unfold InstL.bare at hb
  unfold InstL.fine at hf
  unfold InstL.parts docN
  simp only at h1 h2 h3 h4 hop hb hf ⊢
  have hkc := kindL_cases op
  generalize kindL op = k at *
  have ha : (k = 1 ∨ k = 2 ∨ k = 3 ∨ k = 7) → numOut (Lib.itoa n) = (n, true) := by
    intro hk
    have hr := fun h0 h1 => numOut_itoa n h0 h1
    have hd := fun h => dims_le tx h
    unfold withinB at hf
    rcases hk with rfl | rfl | rfl | rfl
    · simp at hf
      exact hr (by omega) (by omega)
    · simp at hf
      exact hr (by omega) (by omega)
    · simp at hf
      exact hr (by omega) (by omega)
    · simp at hf
      have := hd hf.1
      exact hr (by omega) (by omega)
  rcases Classical.em (k = 1 ∨ k = 2 ∨ k = 3) with k1 | k1
  · have k7 : k = 1 ∨ k = 2 ∨ k = 3 ∨ k = 7 := by omega
    have k4 : ¬ (k = 4 ∨ k = 5 ∨ k = 6 ∨ k = 7) := by omega
    have k5 : ¬ (k = 4 ∨ k = 5 ∨ k = 6) := by omega
    have k8 : ¬ k = 8 := by omega
    have k9 : ¬ k = 7 := by omega
    have k0 : ¬ (k = -1 ∨ k = 0) := by omega
    have htx : tx = [] := h2.2 k4
    rw [if_pos k1] at hb
    simp only [InstL.mk.injEq, true_and] at hb
    simp [k1, k7, k4, k5, k8, k9, k0, htx, ha k7]
    exact hb.2
  · rw [if_neg k1] at hb
    rcases Classical.em (k = 4 ∨ k = 5 ∨ k = 6) with k4 | k4
    · rw [if_pos k4] at hb
      have k4' : k = 4 ∨ k = 5 ∨ k = 6 ∨ k = 7 := by omega
      have k7 : ¬ (k = 1 ∨ k = 2 ∨ k = 3 ∨ k = 7) := by omega
      have k8 : ¬ k = 8 := by omega
      have k9 : ¬ k = 7 := by omega
      have k0 : ¬ (k = -1 ∨ k = 0) := by omega
      have htx : ¬ tx = [] := fun e => (h2.1 e) k4'
      simp only [InstL.mk.injEq, true_and] at hb
      simp [k1, k4, k7, k8, k9, k0, htx]
      exact ⟨hb.1, hb.2⟩
    · rw [if_neg k4] at hb
      by_cases k7 : k = 7
      · subst k7
        have htx : ¬ tx = [] := fun e => (h2.1 e) (by omega)
        simp at hb
        simp [htx, ha (by omega)]
        exact hb
      · rw [if_neg k7] at hb
        have k7' : ¬ (k = 1 ∨ k = 2 ∨ k = 3 ∨ k = 7) := by omega
        have k4' : ¬ (k = 4 ∨ k = 5 ∨ k = 6 ∨ k = 7) := by omega
        have htx : tx = [] := h2.2 k4'
        by_cases k8 : k = 8
        · subst k8
          have hr := refOut_ok (h4 rfl)
          simp at hb
          simp [htx, hr]
          exact hb.1
        · rw [if_neg k8] at hb
          have k0 : k = -1 ∨ k = 0 := by omega
          simp only [InstL.mk.injEq, true_and] at hb
          simp [k1, k4, k7, k7', k8, k0, htx]
          exact ⟨hb.1, hb.2.2⟩
theorem docOut_eq (l : List UInt8) : docOut l = parseOut l := by
  by_cases hd : ((docF l && decide ((splitL 32 l).length = docW l)) && (docI l).ok) = true
  · have hd2 := hd
    simp only [Bool.and_eq_true, decide_eq_true_eq] at hd2
    obtain ⟨⟨h1, h2⟩, h3⟩ := hd2
    obtain ⟨h4, h5⟩ := doc_good h1 h2 h3
    have h6 := parseOut_text h3 h5
    rw [h4] at h6
    unfold docOut
    rw [if_pos hd, h6]
  · have e : docOut l = (⟨0, 0, [], noRefL⟩, 4) := by unfold docOut; rw [if_neg hd]
    by_cases hp : (parseOut l).2 = 0
    · obtain ⟨h1, h2, h3⟩ := parseOut_good hp
      have hnum : (parseOut l).1.num := by
        rw [h3]
        unfold InstL.num parseJ
        simp only
        split
        · exact atoiV_bd _
        · omega
      obtain ⟨h4, h5, h6⟩ := doc_of h1 hnum
      rw [h2] at h4 h5 h6
      exact absurd (by rw [h5, h6, h4, h1]; simp) hd
    · rw [e, parseOut_bad hp]
end Go.Proofs.YtjjdlgjofjfgmaaGreatDoor
