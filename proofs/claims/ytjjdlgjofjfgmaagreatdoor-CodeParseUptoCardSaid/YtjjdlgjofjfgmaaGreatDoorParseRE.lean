/-
  The document's reading of a reference's text and of a number, and of a line: the same as package code's; plain laws.
-/
import Derived.Test.YtjjdlgjofjfgmaaGreatDoorKH
import Derived.Test.YtjjdlgjofjfgmaaGreatDoorKF
set_option linter.unusedSimpArgs false
set_option linter.unusedVariables false
namespace Go.Proofs.YtjjdlgjofjfgmaaGreatDoor
open Go.RowKit

theorem idxP_append {p : UInt8 → Bool} : ∀ (a b : List UInt8), (∀ x, x ∈ a → p x = false) → idxP p (a ++ b) = a.length + idxP p b
  | [], b, _ => by simp
  | x :: t, b, h => by
    have ih := idxP_append t b (fun y hy => h y (List.mem_cons_of_mem _ hy))
    show (if p x then 0 else idxP p (t ++ b) + 1) = _
    rw [if_neg (by rw [h x (List.mem_cons_self ..)]; simp), ih, List.length_cons]
    omega
theorem idxP_head {p : UInt8 → Bool} {c : UInt8} {t : List UInt8} (h : p c = true) : idxP p (c :: t) = 0 := by
  show (if p c then 0 else idxP p t + 1) = _
  rw [if_pos h]
theorem sepB_or (r : RefL) : sepB r = 58 ∨ sepB r = 46 := by unfold sepB; cases r.ifc <;> simp
theorem docRef_at {r : RefL} (h : r.ok = true) : markL r.text = r.cls.length ∧ openL r.text = r.cls.length + 1 + r.nm.length ∧ r.text.length = r.cls.length + 1 + r.nm.length + r.ds.length ∧ 0 < r.ds.length := by
  have hlen := text_len r
  unfold RefL.ok at h
  simp only [Bool.and_eq_true, decide_eq_true_eq] at h
  obtain ⟨⟨h1, h2⟩, h3⟩ := h
  have hc := parseRefL_mem h1
  obtain ⟨⟨t, ht⟩, -⟩ := descL_mem h2
  have hn := memberB_nums h3
  have hm : markL r.text = r.cls.length := by
    unfold markL
    rw [text_eq, idxP_append r.cls _ (fun x hx => ?_), idxP_head (by rcases sepB_or r with e | e <;> rw [e] <;> decide)]
    · omega
    · have := clsB_nums (hc x hx)
      unfold isMark
      rw [Bool.or_eq_false_iff, beq_eq_false_iff_ne, beq_eq_false_iff_ne]
      exact ⟨fun e => this.2.1 (by rw [e]; rfl), fun e => this.2.2.1 (by rw [e]; rfl)⟩
  refine ⟨hm, ?_, hlen, by rw [ht]; simp⟩
  unfold openL
  rw [hm, text_eq, List.drop_left, ht]
  rw [show sepB r :: (r.nm ++ 40 :: t) = (sepB r :: r.nm) ++ 40 :: t by simp, idxP_append (sepB r :: r.nm) _ (fun x hx => ?_), idxP_head (by decide)]
  · simp; omega
  · rcases List.mem_cons.1 hx with rfl | hx
    · rcases sepB_or r with e | e <;> rw [e] <;> decide
    · have := hn x hx
      rw [beq_eq_false_iff_ne]
      exact fun e => this.2 (by rw [e]; rfl)
theorem docRef_ok {r : RefL} (h : r.ok = true) : docRefOut r.text = (r, 0) := by
  obtain ⟨h1, h2, h3, h4⟩ := docRef_at h
  have e1 := text_dot r
  have e2 := text_cls r
  have e3 := text_nm r
  have e4 := text_ds r
  rw [List.drop_zero] at e2
  have e : docRef r.text = r := by
    unfold docRef
    rw [h2, h1, e2, e4, show r.cls.length + 1 + r.nm.length - (r.cls.length + 1) = r.nm.length by omega, e3]
    have e5 : (decide (r.text[r.cls.length]? = some 58)) = decide (some (sepB r) = some (58 : UInt8)) := by simp only [e1]
    rw [e5]
    obtain ⟨ifc, cls, nm, ds⟩ := r
    simp only [RefL.mk.injEq, and_true]
    unfold sepB
    cases ifc <;> simp
  unfold docRefOut
  rw [if_pos (by omega), e, if_pos h]
theorem docRef_text {l : List UInt8} (h : openL l < l.length) : (docRef l).text = l := by
  have hmo := mark_open h
  have hq := idxP_get isMark l (by show markL l < l.length; omega)
  have hx : l[markL l]? = some (l[idxP isMark l]'(by show markL l < l.length; omega)) := List.getElem?_eq_getElem _
  generalize (l[idxP isMark l]'(by show markL l < l.length; omega)) = x at hq hx
  have hx2 : x = 46 ∨ x = 58 := by
    unfold isMark at hq
    simpa using hq
  have hml : markL l < l.length := by omega
  unfold docRef RefL.text
  simp only
  have hsep : (if decide (l[markL l]? = some 58) = true then [58] else [46]) = [x] := by
    rw [hx]
    rcases hx2 with rfl | rfl <;> decide
  rw [hsep]
  generalize markL l = d at *
  generalize openL l = o at *
  have e1 : l.take d ++ [x] = l.take (d + 1) := by
    rw [List.take_succ_eq_append_getElem hml]
    rw [List.getElem?_eq_getElem hml] at hx
    rw [Option.some.inj hx]
  rw [e1]
  have e2 : l.take (d + 1) ++ (l.drop (d + 1)).take (o - (d + 1)) = l.take o := by
    have e3 : l.take o = l.take ((d + 1) + (o - (d + 1))) := by congr 1; omega
    rw [e3, ← List.take_add]
  rw [e2, List.take_append_drop]
theorem docRef_good {l : List UInt8} (h : (docRefOut l).2 = 0) : (docRefOut l).1.ok = true ∧ (docRefOut l).1.text = l := by
  unfold docRefOut at h ⊢
  split at h
  · rename_i ho
    rw [if_pos ho]
    split at h
    · rename_i hk
      rw [if_pos hk]
      exact ⟨hk, docRef_text ho⟩
    · simp at h
  · simp at h
theorem docRef_bad {l : List UInt8} (h : (docRefOut l).2 ≠ 0) : docRefOut l = (noRefL, 4) := by
  unfold docRefOut at h ⊢
  split at h
  · rename_i ho
    rw [if_pos ho]
    split at h
    · simp at h
    · rename_i hk
      rw [if_neg hk]
  · rename_i ho
    rw [if_neg ho]
theorem refOut_bad {l : List UInt8} (h : (refOut l).2 ≠ 0) : refOut l = (noRefL, 4) := by
  unfold refOut at h ⊢
  cases hs : splitRef l with
  | none => rfl
  | some r =>
    rw [hs] at h
    simp only at h ⊢
    cases ho : r.ok with
    | true => rw [ho] at h; simp at h
    | false => rfl
theorem docRefOut_eq (l : List UInt8) : docRefOut l = refOut l := by
  by_cases h1 : (docRefOut l).2 = 0
  · obtain ⟨h2, h3⟩ := docRef_good h1
    have h4 := refOut_ok h2
    rw [h3] at h4
    rw [h4, ← h1]
  · by_cases h2 : (refOut l).2 = 0
    · obtain ⟨h3, h4⟩ := refOut_good h2
      have h5 := docRef_ok h3
      rw [h4] at h5
      exact absurd (by rw [h5]) h1
    · rw [docRef_bad h1, refOut_bad h2]

theorem foldD_digits : ∀ (u : Nat) (r : List UInt8), foldD 0 (Lib.decDigits u ++ r) = foldD u r := by
  intro u
  induction u using Nat.strongRecOn with
  | ind u ih =>
    intro r
    rw [Lib.decDigits]
    by_cases h : u < 10
    · rw [dif_pos h, List.singleton_append]
      show (if 48 ≤ (UInt8.toNat _) ∧ (UInt8.toNat _) ≤ 57 then _ else none) = _
      have e : (UInt8.ofNat (48 + u)).toNat = 48 + u := by simp; omega
      simp only [e]
      rw [if_pos (by omega)]
      congr 1
      omega
    · rw [dif_neg h, List.append_assoc, List.singleton_append, ih (u / 10) (by omega)]
      show (if 48 ≤ (UInt8.toNat _) ∧ (UInt8.toNat _) ≤ 57 then _ else none) = _
      have e : (UInt8.ofNat (48 + u % 10)).toNat = 48 + u % 10 := by simp; omega
      simp only [e]
      rw [if_pos (by omega)]
      congr 1
      omega
theorem decDigits_le : ∀ (k u : Nat), u < 10 ^ (k + 1) → (Lib.decDigits u).length ≤ k + 1
  | 0, u, h => by
    rw [Lib.decDigits, dif_pos (by simpa using h)]
    simp
  | k + 1, u, h => by
    rw [Lib.decDigits]
    by_cases hu : u < 10
    · rw [dif_pos hu]
      simp
    · rw [dif_neg hu]
      have := decDigits_le k (u / 10) (by rw [Nat.pow_succ] at h; omega)
      simp
      omega
theorem foldD_lt : ∀ (l : List UInt8) (n m : Nat), foldD n l = some m → m < (n + 1) * 10 ^ l.length
  | [], n, m, h => by
    simp only [foldD, Option.some.injEq] at h
    simp
    omega
  | c :: t, n, m, h => by
    unfold foldD at h
    split at h
    · rename_i hc
      have h1 := foldD_lt t _ m h
      have h2 : n * 10 + (c.toNat - 48) + 1 ≤ (n + 1) * 10 := by omega
      have h3 := Nat.mul_le_mul_right (10 ^ t.length) h2
      rw [List.length_cons, Nat.pow_succ]
      have h4 : (n + 1) * 10 * 10 ^ t.length = (n + 1) * (10 ^ t.length * 10) := by rw [Nat.mul_assoc, Nat.mul_comm 10]
      omega
    · cases h
theorem numOut_itoa (n : Int) (h0 : -9999999999 ≤ n) (h1 : n ≤ 9999999999) : numOut (Lib.itoa n) = (n, true) := by
  obtain ⟨c, t, hd, hc1, hc2⟩ := dec_head n.natAbs
  have hl := decDigits_le 9 n.natAbs (by omega)
  have hf := foldD_digits n.natAbs []
  rw [List.append_nil] at hf
  have hf2 : foldD n.natAbs [] = some n.natAbs := rfl
  rw [hf2] at hf
  have hpos : 0 < (Lib.decDigits n.natAbs).length := by rw [hd]; simp
  by_cases hn : n < 0
  · have e : Lib.itoa n = 45 :: Lib.decDigits n.natAbs := by unfold Lib.itoa; rw [if_pos hn]
    have ha : numAt (Lib.itoa n) = 1 := by rw [e]; rfl
    unfold numOut
    rw [ha, if_neg (by rw [e, List.length_cons]; omega)]
    have e2 : (Lib.itoa n).drop 1 = Lib.decDigits n.natAbs := by rw [e]; rfl
    rw [e2, hf]
    simp only [if_true]
    have e3 : -(n.natAbs : Int) = n := by omega
    rw [e3]
    simp
  · have e : Lib.itoa n = Lib.decDigits n.natAbs := by unfold Lib.itoa; rw [if_neg hn, show n.toNat = n.natAbs by omega]
    have ha : numAt (Lib.itoa n) = 0 := by
      rw [e, hd]
      unfold numAt
      rw [List.head?_cons, if_neg]
      intro hh
      have := Option.some.inj hh
      rw [this] at hc1
      simp at hc1
    unfold numOut
    rw [ha, if_neg (by rw [e]; omega)]
    have e2 : (Lib.itoa n).drop 0 = Lib.decDigits n.natAbs := by rw [e]; rfl
    rw [e2, hf]
    simp only [Nat.zero_ne_one, if_false]
    have e3 : (n.natAbs : Int) = n := by omega
    rw [e3]
    simp
theorem numOut_good {l : List UInt8} (h : (numOut l).2 = true) : Lib.itoa (numOut l).1 = l ∧ -9999999999 ≤ (numOut l).1 ∧ (numOut l).1 ≤ 9999999999 := by
  unfold numOut at h ⊢
  split at h
  · simp at h
  · rename_i hc
    rw [if_neg hc]
    cases hf : foldD 0 (l.drop (numAt l)) with
    | none => rw [hf] at h; simp at h
    | some n =>
      rw [hf] at h
      simp only [decide_eq_true_eq] at h
      have hlt := foldD_lt _ _ _ hf
      have hle : 10 ^ (l.drop (numAt l)).length ≤ 10 ^ 10 := Nat.pow_le_pow_right (by omega) (by rw [List.length_drop]; omega)
      have hn : n < 10000000000 := by
        rw [Nat.zero_add, Nat.one_mul] at hlt
        exact Nat.lt_of_lt_of_le hlt hle
      simp only
      refine ⟨h, ?_, ?_⟩
      · split <;> omega
      · split <;> omega
theorem numOut_bad {l : List UInt8} : -9999999999 ≤ (numOut l).1 ∧ (numOut l).1 ≤ 9999999999 := by
  unfold numOut
  split
  · simp
  · rename_i hc
    cases hf : foldD 0 (l.drop (numAt l)) with
    | none => simp
    | some n =>
      have hlt := foldD_lt _ _ _ hf
      have hle : 10 ^ (l.drop (numAt l)).length ≤ 10 ^ 10 := Nat.pow_le_pow_right (by omega) (by rw [List.length_drop]; omega)
      have hn : n < 10000000000 := by
        rw [Nat.zero_add, Nat.one_mul] at hlt
        exact Nat.lt_of_lt_of_le hlt hle
      simp only
      refine ⟨?_, ?_⟩
      · split <;> omega
      · split <;> omega
end Go.Proofs.YtjjdlgjofjfgmaaGreatDoor
