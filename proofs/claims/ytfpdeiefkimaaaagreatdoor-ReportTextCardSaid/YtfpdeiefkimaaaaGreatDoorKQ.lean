/-
  The text of a class, line by line: what is read of it is written so again, and it is read as the class; plain laws. No program text.
-/
import Derived.Test.YtfpdeiefkimaaaaGreatDoorKD
import Derived.Test.YtfpdeiefkimaaaaGreatDoorKE
import Derived.Test.YtfpdeiefkimaaaaGreatDoorKI
import Derived.Test.YtfpdeiefkimaaaaGreatDoorKJ
import Derived.Test.YtfpdeiefkimaaaaGreatDoorKN
set_option linter.unusedSimpArgs false
set_option linter.unusedVariables false
namespace Go.Proofs.YtfpdeiefkimaaaaGreatDoor
open Go.RowKit

/-! ### Lines -/
def wd2 (a b : List UInt8) : List UInt8 := a ++ 32 :: b
def mHead (m : MethS) : List UInt8 := wordT (methB ++ m.nm ++ [32] ++ m.ds) (flagText m.fl 1055).1
def mLines (m : MethS) : List (List UInt8) := mHead m :: wd2 wLocals (Lib.itoa m.lo) :: wd2 wStack (Lib.itoa m.st) :: m.code.map InstL.text
def flLine (f : Int) : List UInt8 := wordT wFlags (flagText f 1585).1
def rHead (r : RdS) : List (List UInt8) := wd2 wClass r.nm :: wd2 wSuper r.sup :: r.ifs.map (wd2 wIface)
def rTop (r : RdS) : List (List UInt8) := rHead r ++ [flLine r.fl, wd2 wLoader (Lib.itoa r.ld)]
def rLines (r : RdS) : List (List UInt8) := rTop r ++ r.ms.flatMap mLines ++ [wEnd]
def ends (ls : List (List UInt8)) : List UInt8 := ls.flatMap fun x => x ++ [10]
theorem line1 (x : List UInt8) : lineT [x] = x ++ [10] := by simp [lineT, Lib.join, List.intercalate, List.intersperse]
theorem line2 (x y : List UInt8) : lineT [x, y] = wd2 x y ++ [10] := by simp [lineT, wd2, Lib.join, List.intercalate, List.intersperse]
theorem ends_append (a b : List (List UInt8)) : ends (a ++ b) = ends a ++ ends b := by simp [ends]
theorem ends_cons (x : List UInt8) (t : List (List UInt8)) : ends (x :: t) = x ++ [10] ++ ends t := by simp [ends]
theorem ends_nil : ends [] = [] := rfl
theorem ends_map {α : Type} (f g : α → List UInt8) (h : ∀ a, f a = g a ++ [10]) : ∀ l : List α, l.flatMap f = ends (l.map g)
  | [] => rfl
  | a :: t => by rw [List.flatMap_cons, List.map_cons, ends_cons, h, ends_map f g h t]
theorem meth_lines (m : MethS) : methT (methS0 m) = ends (mLines m) := by
  show lineT [mHead m] ++ lineT [wLocals, Lib.itoa m.lo] ++ lineT [wStack, Lib.itoa m.st] ++ m.code.flatMap instT = _
  unfold mLines
  rw [ends_map instT InstL.text (fun i => line1 _)]
  simp only [line1, line2, ends_cons, List.append_assoc]
theorem meths_lines : ∀ ms : List MethS, (ms.map methS0).flatMap methT = ends (ms.flatMap mLines)
  | [] => rfl
  | m :: t => by rw [List.map_cons, List.flatMap_cons, List.flatMap_cons, ends_append, meth_lines, meths_lines t]
theorem print_lines (r : RdS) : printL (clsS r) = ends (rLines r) := by
  show lineT [wClass, r.nm] ++ lineT [wSuper, r.sup] ++ r.ifs.flatMap ifT ++ lineT [flLine r.fl] ++ lineT [wLoader, Lib.itoa r.ld] ++ (r.ms.map methS0).flatMap methT ++ lineT [wEnd] = _
  unfold rLines rTop rHead
  rw [ends_map ifT (wd2 wIface) (fun x => line2 _ _), meths_lines]
  simp only [line1, line2, ends_cons, ends_append, ends_nil, List.append_assoc, List.append_nil]
theorem join_cons (c : UInt8) (y : List UInt8) : ∀ s : List (List UInt8), s ≠ [] → Lib.join (y :: s) [c] = y ++ c :: Lib.join s [c]
  | [], h => absurd rfl h
  | b :: r, _ => by simp [Lib.join, List.intercalate, List.intersperse]
theorem join_ends : ∀ ls : List (List UInt8), Lib.join (ls ++ [[]]) [10] = ends ls
  | [] => by simp [Lib.join, List.intercalate, List.intersperse, ends]
  | x :: t => by
    rw [List.cons_append, join_cons 10 x _ (by simp), join_ends t, ends_cons]
    simp
theorem join_one (b : List UInt8) : Lib.join [b] [32] = b := by simp [Lib.join, List.intercalate, List.intersperse]

/-! ### Line after line -/
def stepsL : RdS → List (List UInt8) → Option RdS
  | r, [] => some r
  | r, x :: t => (stepL r x).bind fun r' => stepsL r' t
theorem steps_one {r r1 : RdS} {x : List UInt8} {t : List (List UInt8)} (h : stepL r x = some r1) : stepsL r (x :: t) = stepsL r1 t := by
  show (stepL r x).bind _ = _
  rw [h]
  rfl
theorem read_steps : ∀ (ls : List (List UInt8)) (r : RdS) (n : Nat) (r' : RdS), readL r ls n = .inl r' → ∃ ls', ls = ls' ++ [[]] ∧ stepsL r ls' = some r' ∧ r'.st = 8
  | [], r, n, r', h => by
    replace h : (Sum.inr n : RdS ⊕ Nat) = Sum.inl r' := h
    cases h
  | [x], r, n, r', h => by
    replace h : (if x = [] ∧ r.st = 8 then Sum.inl r else Sum.inr n) = Sum.inl r' := h
    split at h
    · rename_i hx
      cases h
      exact ⟨[], by rw [hx.1]; rfl, rfl, hx.2⟩
    · cases h
  | x :: y :: t, r, n, r', h => by
    replace h : (match stepL r x with | none => Sum.inr n | some r1 => readL r1 (y :: t) (n + 1)) = Sum.inl r' := h
    cases hs : stepL r x with
    | none => rw [hs] at h; cases h
    | some r1 =>
      rw [hs] at h
      obtain ⟨ls', h1, h2, h3⟩ := read_steps (y :: t) r1 (n + 1) r' h
      exact ⟨x :: ls', by rw [h1]; rfl, (steps_one hs).trans h2, h3⟩
theorem read_fault : ∀ (ls : List (List UInt8)) (r : RdS) (n k : Nat), ls ≠ [] → readL r ls n = .inr k → n ≤ k ∧ k < n + ls.length
  | [], r, n, k, h, _ => absurd rfl h
  | [x], r, n, k, _, h => by
    replace h : (if x = [] ∧ r.st = 8 then Sum.inl r else Sum.inr n) = Sum.inr k := h
    split at h
    · cases h
    · cases h
      simp
  | x :: y :: t, r, n, k, _, h => by
    replace h : (match stepL r x with | none => Sum.inr n | some r1 => readL r1 (y :: t) (n + 1)) = Sum.inr k := h
    cases hs : stepL r x with
    | none =>
      rw [hs] at h
      cases h
      simp
    | some r1 =>
      rw [hs] at h
      have := read_fault (y :: t) r1 (n + 1) k (by simp) h
      simp at this ⊢
      omega

/-! ### What each line says -/
theorem named_inv {wd line s : List UInt8} (h : namedP wd (splitL 32 line) = some s) : line = wd2 wd s ∧ s ≠ [] := by
  obtain ⟨ps, hs⟩ : ∃ ps, splitL 32 line = ps := ⟨_, rfl⟩
  rw [hs] at h
  match ps, hs, h with
  | [], _, h => cases h
  | [a], _, h => cases h
  | [a, b], hs, h =>
    replace h : (if a = wd ∧ b ≠ [] then some b else none) = some s := h
    split at h
    · rename_i hc
      cases h
      exact ⟨(splitL_inv hs (by simp)).trans (by rw [hc.1, join_one]; rfl), hc.2⟩
    · cases h
  | a :: b :: c :: t, _, h => cases h
theorem numL_inv {s : List UInt8} {n : Int} (h : numL s = some n) : Lib.itoa n = s := by
  unfold numL at h
  split at h
  · rename_i hc
    cases h
    exact (numOut_good hc.1).1
  · cases h
theorem numbered_inv {wd line : List UInt8} {n : Int} (h : numberedP wd (splitL 32 line) = some n) : line = wd2 wd (Lib.itoa n) := by
  obtain ⟨s, h1, h2⟩ := Option.bind_eq_some_iff.1 h
  rw [numL_inv h2]
  exact (named_inv h1).1
/-! ### Flags -/
theorem parseF_text {m : Int} {l : List UInt8} (h : (parseF m l).2 = 0) : (flagText (parseF m l).1 m).1 = l := by
  unfold parseF at h ⊢
  split at h
  · rename_i hc
    rw [if_pos hc]
    exact hc
  · cases h
theorem flagsP_inv {m f : Int} {ps : List (List UInt8)} (h : flagsP m ps = some f) : (ps = [] ∧ f = 0) ∨ (ps ≠ [] ∧ Lib.join ps [32] ≠ [] ∧ (flagText f m).1 = Lib.join ps [32]) := by
  unfold flagsP at h
  split at h
  · rename_i hp
    cases h
    exact .inl ⟨hp, rfl⟩
  · rename_i hp
    split at h
    · cases h
    · rename_i hj
      split at h
      · rename_i h0
        cases h
        exact .inr ⟨hp, hj, parseF_text h0⟩
      · cases h
theorem flags_line {m f : Int} {a : List UInt8} {ps : List (List UInt8)} {line : List UInt8} (hm : (flagText 0 m).1 = []) (hl : (flagText f m).1.getLast? ≠ some 32) (hs : line = if ps = [] then a else a ++ 32 :: Lib.join ps [32]) (h : flagsP m ps = some f) : line = wordT a (flagText f m).1 := by
  rw [wordT_beh _ _ hl]
  rcases flagsP_inv h with ⟨h1, h2⟩ | ⟨h1, h2, h3⟩
  · rw [hs, if_pos h1, h2, hm]
    simp [behT]
  · rw [hs, if_neg h1, h3]
    unfold behT
    rw [if_neg h2]
    rfl
theorem flag0 : (flagText 0 1585).1 = [] ∧ (flagText 0 1055).1 = [] := by decide +kernel
theorem clsFlags_inv {line : List UInt8} {f : Int} (h : clsFlagsP (splitL 32 line) = some f) : line = flLine f := by
  have hr := clsFlagsP_rng h
  obtain ⟨ps, hs⟩ : ∃ ps, splitL 32 line = ps := ⟨_, rfl⟩
  rw [hs] at h
  match ps, hs, h with
  | [], _, h => cases h
  | a :: t, hs, h =>
    replace h : (if a = wFlags then flagsP 1585 t else none) = some f := h
    split at h
    · rename_i ha
      subst ha
      refine flags_line (ps := t) flag0.1 (lastC hr.1 hr.2) ?_ h
      split
      · rename_i ht
        subst ht
        exact splitL_single hs
      · rename_i ht
        exact splitL_inv hs ht
    · cases h
theorem begin_inv {line : List UInt8} {m : MethS} (h : beginP (splitL 32 line) = some m) : line = mHead m ∧ m.code = [] := by
  obtain ⟨ps, hs⟩ : ∃ ps, splitL 32 line = ps := ⟨_, rfl⟩
  rw [hs] at h
  match ps, hs, h with
  | [], _, h => cases h
  | [a], _, h => cases h
  | [a, b], _, h => cases h
  | a :: b :: c :: t, hs, h =>
    replace h : (if a = wMethod ∧ b ≠ [] ∧ c ≠ [] then (flagsP 1055 t).map fun f => (⟨b, c, f, 0, 0, []⟩ : MethS) else none) = some m := h
    split at h
    · rename_i ha
      obtain ⟨f, hf, rfl⟩ := Option.map_eq_some_iff.1 h
      have hr := flagsP_rng hf
      refine ⟨?_, rfl⟩
      refine flags_line (ps := t) flag0.2 (lastM hr.1 hr.2) ?_ hf
      have h1 := splitL_inv hs (by simp)
      rw [join_cons 32 b _ (by simp)] at h1
      split
      · rename_i ht
        subst ht
        rw [h1, join_one, ha.1]
        simp [methB, wMethod]
      · rename_i ht
        rw [h1, join_cons 32 c _ ht, ha.1]
        simp [methB, wMethod]
    · cases h

/-! ### What has been read, as lines -/
def lastM_ (ms : List MethS) (k : Nat) : List (List UInt8) := match ms.getLast? with
  | none => []
  | some m => (mLines m).take k
def preT (r : RdS) : List (List UInt8) :=
  match r.st with
  | 0 => []
  | 1 => [wd2 wClass r.nm]
  | 2 => rHead r
  | 3 => rHead r ++ [flLine r.fl]
  | 4 => rTop r
  | 5 => rTop r ++ (r.ms.dropLast.flatMap mLines ++ lastM_ r.ms 1)
  | 6 => rTop r ++ (r.ms.dropLast.flatMap mLines ++ lastM_ r.ms 2)
  | 7 => rTop r ++ r.ms.flatMap mLines
  | _ => rLines r
structure RdS.ord (r : RdS) : Prop where
  ifs : r.st ≤ 1 → r.ifs = []
  ms : r.st ≤ 4 → r.ms = []
  ne : 5 ≤ r.st → r.st ≤ 7 → r.ms ≠ []
  code : r.st = 5 ∨ r.st = 6 → ∀ m, r.ms.getLast? = some m → m.code = []
theorem modify_last (init : List MethS) (m : MethS) (f : MethS → MethS) : (init ++ [m]).modify ((init ++ [m]).length - 1) f = init ++ [f m] := by
  rw [List.length_append]
  show (init ++ [m]).modify init.length f = _
  induction init with
  | nil => rfl
  | cons a t ih => exact congrArg (a :: ·) ih
theorem snoc_of {ms : List MethS} (h : ms ≠ []) : ∃ init m, ms = init ++ [m] := ⟨ms.dropLast, ms.getLast h, (List.dropLast_concat_getLast h).symm⟩
theorem lastM_snoc (init : List MethS) (m : MethS) (k : Nat) : lastM_ (init ++ [m]) k = (mLines m).take k := by
  unfold lastM_
  rw [List.getLast?_concat]
theorem step_pre {r r' : RdS} {line : List UInt8} (hr : r.ord) (h : stepL r line = some r') : r'.ord ∧ preT r' = preT r ++ [line] := by
  obtain ⟨h1, h2, h3, h4⟩ := hr
  obtain ⟨nm, sup, ifs, fl, ld, ms, st⟩ := r
  simp only at h1 h2 h3 h4
  unfold stepL at h
  split at h
  · rename_i hst
    simp only at hst
    subst hst
    obtain ⟨s, hs, rfl⟩ := Option.map_eq_some_iff.1 h
    refine ⟨⟨fun _ => h1 (by omega), fun _ => h2 (by omega), fun hx => absurd hx (by simp), fun hx => by simp at hx⟩, ?_⟩
    rw [(named_inv hs).1]
    rfl
  · rename_i hst
    simp only at hst
    subst hst
    obtain ⟨s, hs, rfl⟩ := Option.map_eq_some_iff.1 h
    refine ⟨⟨fun hx => absurd hx (by simp), fun _ => h2 (by omega), fun hx => absurd hx (by simp), fun hx => by simp at hx⟩, ?_⟩
    have hi := h1 (by omega)
    subst hi
    rw [(named_inv hs).1]
    rfl
  · rename_i hst
    simp only at hst
    subst hst
    split at h
    · rename_i s hs
      cases h
      refine ⟨⟨fun hx => absurd hx (by simp), fun _ => h2 (by omega), fun hx => absurd hx (by simp), fun hx => by simp at hx⟩, ?_⟩
      rw [(named_inv hs).1]
      show rHead ⟨nm, sup, ifs ++ [s], fl, ld, ms, 2⟩ = rHead ⟨nm, sup, ifs, fl, ld, ms, 2⟩ ++ _
      simp [rHead]
    · obtain ⟨f, hf, rfl⟩ := Option.map_eq_some_iff.1 h
      refine ⟨⟨fun hx => absurd hx (by simp), fun _ => h2 (by omega), fun hx => absurd hx (by simp), fun hx => by simp at hx⟩, ?_⟩
      rw [clsFlags_inv hf]
      rfl
  · rename_i hst
    simp only at hst
    subst hst
    obtain ⟨n, hn, rfl⟩ := Option.map_eq_some_iff.1 h
    refine ⟨⟨fun hx => absurd hx (by simp), fun _ => h2 (by omega), fun hx => absurd hx (by simp), fun hx => by simp at hx⟩, ?_⟩
    rw [numbered_inv hn]
    show rHead _ ++ [flLine fl, wd2 wLoader (Lib.itoa n)] = rHead _ ++ [flLine fl] ++ [wd2 wLoader (Lib.itoa n)]
    rw [List.append_assoc]
    rfl
  · rename_i hst
    simp only at hst
    subst hst
    have hm := h2 (by omega)
    subst hm
    split at h
    · rename_i hl
      cases h
      refine ⟨⟨fun hx => absurd hx (by simp), fun _ => rfl, fun _ hx => absurd hx (by simp), fun hx => by simp at hx⟩, ?_⟩
      rw [hl]
      show rTop _ ++ [] ++ [wEnd] = rTop _ ++ [wEnd]
      rw [List.append_nil]
      rfl
    · obtain ⟨m, hm, rfl⟩ := Option.map_eq_some_iff.1 h
      obtain ⟨hb1, hb2⟩ := begin_inv hm
      refine ⟨⟨fun hx => absurd hx (by simp), fun hx => absurd hx (by simp), fun _ _ => by simp, fun _ x hx => by simp at hx; rw [← hx]; exact hb2⟩, ?_⟩
      rw [hb1]
      rfl
  · rename_i hst
    simp only at hst
    subst hst
    obtain ⟨n, hn, rfl⟩ := Option.map_eq_some_iff.1 h
    obtain ⟨init, m, rfl⟩ := snoc_of (h3 (by omega) (by omega))
    rw [modify_last]
    have hc := h4 (.inl rfl) m (by simp)
    refine ⟨⟨fun hx => absurd hx (by simp), fun hx => absurd hx (by simp), fun _ _ => by simp, fun _ x hx => by simp at hx; rw [← hx]; exact hc⟩, ?_⟩
    rw [numbered_inv hn]
    show rTop _ ++ ((init ++ [_]).dropLast.flatMap mLines ++ lastM_ (init ++ [_]) 2) = rTop _ ++ ((init ++ [m]).dropLast.flatMap mLines ++ lastM_ (init ++ [m]) 1) ++ [_]
    rw [lastM_snoc, lastM_snoc, List.dropLast_concat, List.dropLast_concat, List.append_assoc, List.append_assoc]
    rfl
  · rename_i hst
    simp only at hst
    subst hst
    obtain ⟨n, hn, rfl⟩ := Option.map_eq_some_iff.1 h
    obtain ⟨init, m, rfl⟩ := snoc_of (h3 (by omega) (by omega))
    rw [modify_last]
    have hc := h4 (.inr rfl) m (by simp)
    refine ⟨⟨fun hx => absurd hx (by simp), fun hx => absurd hx (by simp), fun _ _ => by simp, fun hx => by simp at hx⟩, ?_⟩
    rw [numbered_inv hn]
    obtain ⟨mn, md, mf, ml, mt, mc⟩ := m
    simp only at hc
    subst hc
    show rTop _ ++ ((init ++ [_]).flatMap mLines) = rTop _ ++ ((init ++ [_]).dropLast.flatMap mLines ++ lastM_ (init ++ [_]) 2) ++ [_]
    rw [lastM_snoc, List.dropLast_concat, List.append_assoc, List.append_assoc, List.flatMap_append]
    rfl
  · rename_i hst
    simp only at hst
    subst hst
    split at h
    · rename_i hl
      cases h
      refine ⟨⟨fun hx => absurd hx (by simp), fun hx => absurd hx (by simp), fun _ hx => absurd hx (by simp), fun hx => by simp at hx⟩, ?_⟩
      rw [hl]
      rfl
    · split at h
      · rename_i m hm
        cases h
        obtain ⟨hb1, hb2⟩ := begin_inv hm
        refine ⟨⟨fun hx => absurd hx (by simp), fun hx => absurd hx (by simp), fun _ _ => by simp, fun _ x hx => by simp at hx; rw [← hx]; exact hb2⟩, ?_⟩
        rw [hb1]
        show rTop _ ++ ((ms ++ [m]).dropLast.flatMap mLines ++ lastM_ (ms ++ [m]) 1) = rTop _ ++ ms.flatMap mLines ++ [mHead m]
        rw [lastM_snoc, List.dropLast_concat, List.append_assoc]
        rfl
      · split at h
        · rename_i hp
          cases h
          obtain ⟨init, m, rfl⟩ := snoc_of (h3 (by omega) (by omega))
          rw [modify_last]
          refine ⟨⟨fun hx => absurd hx (by simp), fun hx => absurd hx (by simp), fun _ _ => by simp, fun hx => by simp at hx⟩, ?_⟩
          have ht := (parseOut_good hp).2.1
          show rTop ⟨nm, sup, ifs, fl, ld, [], 7⟩ ++ (init ++ [_]).flatMap mLines = rTop ⟨nm, sup, ifs, fl, ld, [], 7⟩ ++ (init ++ [m]).flatMap mLines ++ [line]
          rw [List.append_assoc, List.flatMap_append, List.flatMap_append, List.append_assoc]
          congr 2
          simp only [List.flatMap_cons, List.flatMap_nil, List.append_nil, mLines, List.map_append, List.map_cons, List.map_nil, ht]
          rfl
        · cases h
  · cases h
theorem steps_pre : ∀ (ls : List (List UInt8)) (r r' : RdS), r.ord → stepsL r ls = some r' → preT r' = preT r ++ ls
  | [], r, r', _, h => by
    cases h
    simp
  | x :: t, r, r', hr, h => by
    obtain ⟨r1, h1, h2⟩ := Option.bind_eq_some_iff.1 h
    obtain ⟨ho, hp⟩ := step_pre hr h1
    rw [steps_pre t r1 r' ho h2, hp, List.append_assoc]
    rfl
theorem ord0 : rd0.ord := ⟨fun _ => rfl, fun _ => rfl, fun hx => absurd hx (by decide), fun hx => by rcases hx with hx | hx <;> cases hx⟩
/-- A text that is read is written again as it was. -/
theorem read_back {l : List UInt8} {r : RdS} {n : Nat} (h : readL rd0 (splitL 10 l) n = .inl r) : printL (clsS r) = l := by
  obtain ⟨ls, h1, h2, h3⟩ := read_steps _ _ _ _ h
  have hp := steps_pre ls rd0 r ord0 h2
  have h4 : preT r = rLines r := by
    unfold preT
    rw [h3]
    rfl
  have h5 : rLines r = ls := by
    rw [← h4, hp]
    rfl
  rw [print_lines, h5, ← join_ends, ← h1, join_split]
theorem text_back {l : List UInt8} {r : RdS} (h : textO l = .inl r) : printL (clsS r) = l ∧ checkB (clsS r) = true := by
  unfold textO at h
  split at h
  · cases h
  · split at h
    · cases h
    · rename_i r1 hr
      split at h
      · rename_i hc
        cases h
        exact ⟨read_back hr, hc⟩
      · cases h
theorem text_fault {l : List UInt8} {n : Nat} {e : Int} (h : textO l = .inr (n, e)) : (e = 4 ∧ 1 ≤ n ∧ n ≤ (splitL 10 l).length) ∨ (n = 0 ∧ (e = 1 ∨ e = 5)) := by
  unfold textO at h
  split at h
  · cases h
    exact .inr ⟨rfl, .inr rfl⟩
  · split at h
    · rename_i k hr
      cases h
      have := read_fault _ _ _ _ (splitL_ne 10 l) hr
      exact .inl ⟨rfl, this.1, by omega⟩
    · split at h
      · cases h
      · cases h
        exact .inr ⟨rfl, .inl rfl⟩
end Go.Proofs.YtfpdeiefkimaaaaGreatDoor
/-
  A sound class's text is read as it; plain laws. No program text.
-/
set_option linter.unusedSimpArgs false
set_option linter.unusedVariables false
namespace Go.Proofs.YtfpdeiefkimaaaaGreatDoor
open Go.RowKit

def word0 (l : List UInt8) : Prop := l ≠ [] ∧ ∀ b, b ∈ l → noWs b
structure MethS.snd (m : MethS) : Prop where
  nm : word0 m.nm
  ds : word0 m.ds
  fl : outF m.fl 1055 = false ∧ rng m.fl
  lo : 0 ≤ m.lo ∧ m.lo ≤ 40
  st : 0 ≤ m.st ∧ m.st ≤ 40
  code : ∀ i, i ∈ m.code → i.ok = true ∧ i.num
structure RdS.snd (r : RdS) : Prop where
  nm : word0 r.nm
  sup : word0 r.sup
  ifs : ∀ x, x ∈ r.ifs → word0 x
  fl : outF r.fl 1585 = false ∧ rng r.fl
  ld : 0 ≤ r.ld ∧ r.ld ≤ 9
  ms : ∀ m, m ∈ r.ms → m.snd

/-! ### No line holds an end of line -/
/-! ### A class in memory -/
def methSOf (m : MethL) : MethS := ⟨m.nm, m.ds, m.fl, m.lo, m.st, m.code⟩
def rdOf (c : ClassL) : RdS := ⟨c.nm, c.sup, c.ifs, c.fl, c.ld, c.ms.map methSOf, 8⟩
def slOf (m : MethL) : Value := .slice m.A m.code.length m.cap
theorem printMs_of : ∀ ms : List MethL, ((ms.map methSOf).map methS0).flatMap methT = ms.flatMap methT
  | [] => rfl
  | m :: t => by
    rw [List.map_cons, List.map_cons, List.flatMap_cons, List.flatMap_cons, printMs_of t]
    rfl
theorem print_of (c : ClassL) : printL (clsS (rdOf c)) = printL c := by
  show midT c ++ ((c.ms.map methSOf).map methS0).flatMap methT ++ lineT [endB] = _
  rw [printMs_of]
  rfl
end Go.Proofs.YtfpdeiefkimaaaaGreatDoor
/-
  The document's Same at two classes of one content, walked. (Printed by gen_sameC.py.)
-/
set_option linter.unusedSimpArgs false
set_option linter.unusedVariables false
namespace Go.Proofs.YtfpdeiefkimaaaaGreatDoor
open Go.RowKit Go.Sort

def eqRel (n : Nat) (w : World) (t : Value) (wr : World) : Prop := ∃ k : Nat, t = .int .i64 k ∧ k ≤ n ∧ Hid (Upd w wr [])

end Go.Proofs.YtfpdeiefkimaaaaGreatDoor
