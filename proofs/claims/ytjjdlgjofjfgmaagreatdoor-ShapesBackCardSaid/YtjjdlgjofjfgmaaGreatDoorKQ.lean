/-
  The text of a class, line by line: what is read of it is written so again, and it is read as the class; plain laws. No program text.
-/
import Derived.Test.YtjjdlgjofjfgmaaGreatDoorKD
import Derived.Test.YtjjdlgjofjfgmaaGreatDoorKE
import Derived.Test.YtjjdlgjofjfgmaaGreatDoorKI
import Derived.Test.YtjjdlgjofjfgmaaGreatDoorKJ
import Derived.Test.YtjjdlgjofjfgmaaGreatDoorKN
set_option linter.unusedSimpArgs false
set_option linter.unusedVariables false
namespace Go.Proofs.YtjjdlgjofjfgmaaGreatDoor
open Go.RowKit

/-! ### Lines -/
def wd2 (a b : List UInt8) : List UInt8 := a ++ 32 :: b
def mHead (m : MethS) : List UInt8 := wordT (methB ++ m.nm ++ [32] ++ m.ds) (flagText m.fl 1055).1
def mLines (m : MethS) : List (List UInt8) := mHead m :: wd2 wLocals (Lib.itoa m.lo) :: wd2 wStack (Lib.itoa m.st) :: m.code.map InstL.text
def flLine (f : Int) : List UInt8 := wordT wFlags (flagText f 1585).1
def rHead (r : RdS) : List (List UInt8) := wd2 wClass r.nm :: wd2 wSuper r.sup :: r.ifs.map (wd2 wIface)
def rTop (r : RdS) : List (List UInt8) := rHead r ++ [flLine r.fl, wd2 wLoader (Lib.itoa r.ld)]
def rLines (r : RdS) : List (List UInt8) := rTop r ++ r.ms.flatMap mLines ++ [wEnd]
def ends (ls : List (List UInt8)) : List UInt8 := ls.flatMap fun x => x ++ [10]
theorem line1 (x : List UInt8) : lineT [x] = x ++ [10] := by simp [lineT, Lib.join, List.intercalate, List.intersperse]
theorem line2 (x y : List UInt8) : lineT [x, y] = wd2 x y ++ [10] := by simp [lineT, wd2, Lib.join, List.intercalate, List.intersperse]
theorem ends_append (a b : List (List UInt8)) : ends (a ++ b) = ends a ++ ends b := by simp [ends]
theorem ends_cons (x : List UInt8) (t : List (List UInt8)) : ends (x :: t) = x ++ [10] ++ ends t := by simp [ends]
theorem ends_nil : ends [] = [] := rfl
theorem ends_map {α : Type} (f g : α → List UInt8) (h : ∀ a, f a = g a ++ [10]) : ∀ l : List α, l.flatMap f = ends (l.map g)
  | [] => rfl
  | a :: t => by rw [List.flatMap_cons, List.map_cons, ends_cons, h, ends_map f g h t]
theorem meth_lines (m : MethS) : methT (methS0 m) = ends (mLines m) := by
  show lineT [mHead m] ++ lineT [wLocals, Lib.itoa m.lo] ++ lineT [wStack, Lib.itoa m.st] ++ m.code.flatMap instT = _
  unfold mLines
  rw [ends_map instT InstL.text (fun i => line1 _)]
  simp only [line1, line2, ends_cons, List.append_assoc]
theorem meths_lines : ∀ ms : List MethS, (ms.map methS0).flatMap methT = ends (ms.flatMap mLines)
  | [] => rfl
  | m :: t => by rw [List.map_cons, List.flatMap_cons, List.flatMap_cons, ends_append, meth_lines, meths_lines t]
theorem print_lines (r : RdS) : printL (clsS r) = ends (rLines r) := by
  show lineT [wClass, r.nm] ++ lineT [wSuper, r.sup] ++ r.ifs.flatMap ifT ++ lineT [flLine r.fl] ++ lineT [wLoader, Lib.itoa r.ld] ++ (r.ms.map methS0).flatMap methT ++ lineT [wEnd] = _
  unfold rLines rTop rHead
  rw [ends_map ifT (wd2 wIface) (fun x => line2 _ _), meths_lines]
  simp only [line1, line2, ends_cons, ends_append, ends_nil, List.append_assoc, List.append_nil]
theorem split_ends : ∀ ls : List (List UInt8), (∀ x, x ∈ ls → (10 : UInt8) ∉ x) → splitL 10 (ends ls) = ls ++ [[]]
  | [], _ => rfl
  | x :: t, h => by
    rw [ends_cons, show x ++ [10] ++ ends t = x ++ 10 :: ends t by simp, splitL_cut 10 x _ (h x (by simp)), split_ends t (fun y hy => h y (List.mem_cons_of_mem _ hy))]
    rfl
theorem join_cons (c : UInt8) (y : List UInt8) : ∀ s : List (List UInt8), s ≠ [] → Lib.join (y :: s) [c] = y ++ c :: Lib.join s [c]
  | [], h => absurd rfl h
  | b :: r, _ => by simp [Lib.join, List.intercalate, List.intersperse]
theorem join_ends : ∀ ls : List (List UInt8), Lib.join (ls ++ [[]]) [10] = ends ls
  | [] => by simp [Lib.join, List.intercalate, List.intersperse, ends]
  | x :: t => by
    rw [List.cons_append, join_cons 10 x _ (by simp), join_ends t, ends_cons]
    simp
theorem join_one (b : List UInt8) : Lib.join [b] [32] = b := by simp [Lib.join, List.intercalate, List.intersperse]

/-! ### Line after line -/
def stepsL : RdS → List (List UInt8) → Option RdS
  | r, [] => some r
  | r, x :: t => (stepL r x).bind fun r' => stepsL r' t
theorem steps_append : ∀ (a b : List (List UInt8)) (r : RdS), stepsL r (a ++ b) = (stepsL r a).bind fun r' => stepsL r' b
  | [], b, r => rfl
  | x :: t, b, r => by
    show (stepL r x).bind (fun r' => stepsL r' (t ++ b)) = ((stepL r x).bind fun r' => stepsL r' t).bind _
    cases stepL r x with
    | none => rfl
    | some r1 => exact steps_append t b r1
theorem steps_then {a b : List (List UInt8)} {r r1 : RdS} (h : stepsL r a = some r1) : stepsL r (a ++ b) = stepsL r1 b := by
  rw [steps_append, h]
  rfl
theorem steps_one {r r1 : RdS} {x : List UInt8} {t : List (List UInt8)} (h : stepL r x = some r1) : stepsL r (x :: t) = stepsL r1 t := by
  show (stepL r x).bind _ = _
  rw [h]
  rfl
theorem steps_read : ∀ (ls : List (List UInt8)) (r : RdS) (n : Nat) (r' : RdS), stepsL r ls = some r' → r'.st = 8 → readL r (ls ++ [[]]) n = .inl r'
  | [], r, n, r', h, h8 => by
    cases h
    show (if ([] : List UInt8) = [] ∧ r.st = 8 then Sum.inl r else Sum.inr n) = _
    rw [if_pos ⟨rfl, h8⟩]
  | x :: t, r, n, r', h, h8 => by
    obtain ⟨r1, h1, h2⟩ := Option.bind_eq_some_iff.1 h
    have ih := steps_read t r1 (n + 1) r' h2 h8
    rw [List.cons_append]
    cases ht : t ++ [[]] with
    | nil => simp at ht
    | cons y s =>
      rw [ht] at ih
      show (match stepL r x with | none => Sum.inr n | some r1 => readL r1 (y :: s) (n + 1)) = _
      rw [h1]
      exact ih
theorem read_steps : ∀ (ls : List (List UInt8)) (r : RdS) (n : Nat) (r' : RdS), readL r ls n = .inl r' → ∃ ls', ls = ls' ++ [[]] ∧ stepsL r ls' = some r' ∧ r'.st = 8
  | [], r, n, r', h => by
    replace h : (Sum.inr n : RdS ⊕ Nat) = Sum.inl r' := h
    cases h
  | [x], r, n, r', h => by
    replace h : (if x = [] ∧ r.st = 8 then Sum.inl r else Sum.inr n) = Sum.inl r' := h
    split at h
    · rename_i hx
      cases h
      exact ⟨[], by rw [hx.1]; rfl, rfl, hx.2⟩
    · cases h
  | x :: y :: t, r, n, r', h => by
    replace h : (match stepL r x with | none => Sum.inr n | some r1 => readL r1 (y :: t) (n + 1)) = Sum.inl r' := h
    cases hs : stepL r x with
    | none => rw [hs] at h; cases h
    | some r1 =>
      rw [hs] at h
      obtain ⟨ls', h1, h2, h3⟩ := read_steps (y :: t) r1 (n + 1) r' h
      exact ⟨x :: ls', by rw [h1]; rfl, (steps_one hs).trans h2, h3⟩
theorem read_fault : ∀ (ls : List (List UInt8)) (r : RdS) (n k : Nat), ls ≠ [] → readL r ls n = .inr k → n ≤ k ∧ k < n + ls.length
  | [], r, n, k, h, _ => absurd rfl h
  | [x], r, n, k, _, h => by
    replace h : (if x = [] ∧ r.st = 8 then Sum.inl r else Sum.inr n) = Sum.inr k := h
    split at h
    · cases h
    · cases h
      simp
  | x :: y :: t, r, n, k, _, h => by
    replace h : (match stepL r x with | none => Sum.inr n | some r1 => readL r1 (y :: t) (n + 1)) = Sum.inr k := h
    cases hs : stepL r x with
    | none =>
      rw [hs] at h
      cases h
      simp
    | some r1 =>
      rw [hs] at h
      have := read_fault (y :: t) r1 (n + 1) k (by simp) h
      simp at this ⊢
      omega

/-! ### What each line says -/
theorem named_inv {wd line s : List UInt8} (h : namedP wd (splitL 32 line) = some s) : line = wd2 wd s ∧ s ≠ [] := by
  obtain ⟨ps, hs⟩ : ∃ ps, splitL 32 line = ps := ⟨_, rfl⟩
  rw [hs] at h
  match ps, hs, h with
  | [], _, h => cases h
  | [a], _, h => cases h
  | [a, b], hs, h =>
    replace h : (if a = wd ∧ b ≠ [] then some b else none) = some s := h
    split at h
    · rename_i hc
      cases h
      exact ⟨(splitL_inv hs (by simp)).trans (by rw [hc.1, join_one]; rfl), hc.2⟩
    · cases h
  | a :: b :: c :: t, _, h => cases h
theorem named_wd2 (wd s : List UInt8) (hw : (32 : UInt8) ∉ wd) (h : s ≠ []) (h32 : (32 : UInt8) ∉ s) : namedP wd (splitL 32 (wd2 wd s)) = some s := by
  unfold wd2
  rw [split_head wd s hw, splitL_none 32 s h32]
  show (if wd = wd ∧ s ≠ [] then some s else none) = _
  rw [if_pos ⟨rfl, h⟩]
theorem itoa_ne (n : Int) : Lib.itoa n ≠ [] := by
  unfold Lib.itoa
  split
  · simp
  · obtain ⟨c, t, h, -⟩ := dec_head n.toNat
    rw [h]
    simp
theorem no32 {l : List UInt8} (h : ∀ b, b ∈ l → noWs b) : (32 : UInt8) ∉ l := fun hm => (h 32 hm).1 rfl
theorem no10 {l : List UInt8} (h : ∀ b, b ∈ l → noWs b) : (10 : UInt8) ∉ l := fun hm => (h 10 hm).2 rfl
theorem numL_itoa {n : Int} (h0 : 0 ≤ n) (h1 : n ≤ 999999999) : numL (Lib.itoa n) = some n := by
  have h := numOut_itoa n (by omega) (by omega)
  have hl := decDigits_le 8 n.toNat (by show n.toNat < 1000000000; omega)
  have hle : (Lib.itoa n).length ≤ 9 := by
    unfold Lib.itoa
    rw [if_neg (by omega)]
    exact hl
  unfold numL
  rw [h]
  exact if_pos ⟨rfl, h0, hle⟩
theorem numL_inv {s : List UInt8} {n : Int} (h : numL s = some n) : Lib.itoa n = s := by
  unfold numL at h
  split at h
  · rename_i hc
    cases h
    exact (numOut_good hc.1).1
  · cases h
theorem numbered_inv {wd line : List UInt8} {n : Int} (h : numberedP wd (splitL 32 line) = some n) : line = wd2 wd (Lib.itoa n) := by
  obtain ⟨s, h1, h2⟩ := Option.bind_eq_some_iff.1 h
  rw [numL_inv h2]
  exact (named_inv h1).1
theorem numbered_wd2 (wd : List UInt8) (hw : (32 : UInt8) ∉ wd) {n : Int} (h0 : 0 ≤ n) (h1 : n ≤ 999999999) : numberedP wd (splitL 32 (wd2 wd (Lib.itoa n))) = some n := by
  unfold numberedP
  rw [named_wd2 wd _ hw (itoa_ne n) (no32 (itoa_no n))]
  exact numL_itoa h0 h1

/-! ### Flags -/
theorem zero_text : ∀ f : Fin 2048, flagsText (f.val : Int) = [] → outF (f.val : Int) 1585 = false ∨ outF (f.val : Int) 1055 = false → f.val = 0 := by decide +kernel
theorem text_of {f m : Int} (ho : outF f m = false) : (flagText f m).1 = flagsText f := by
  unfold flagText
  rw [ho]
  rfl
theorem split_beh (d ft : List UInt8) (h : (32 : UInt8) ∉ d) : splitL 32 (d ++ behT ft) = d :: (if ft = [] then [] else splitL 32 ft) := by
  unfold behT
  split
  · rw [List.append_nil, splitL_none 32 d h]
  · show splitL 32 (d ++ 32 :: ft) = _
    rw [splitL_cut 32 d ft h]
theorem flagsP_own {m f : Int} {ft : List UInt8} (hp : parseF m ft = (f, 0)) (h0 : ft = [] → f = 0) : flagsP m (if ft = [] then [] else splitL 32 ft) = some f := by
  by_cases h : ft = []
  · rw [if_pos h, h0 h]
    rfl
  · rw [if_neg h]
    unfold flagsP
    rw [if_neg (splitL_ne 32 ft), join_split, if_neg h, hp]
    rfl
theorem flagsP_C {f : Int} (h0 : -9223372036854775808 ≤ f) (h1 : f ≤ 9223372036854775807) (ho : outF f 1585 = false) : flagsP 1585 (if flagsText f = [] then [] else splitL 32 (flagsText f)) = some f := by
  obtain ⟨ha, hb⟩ := outF_small (m := 1585) h0 h1 (by omega) ho
  have hw := ownC ⟨f.toNat, by omega⟩
  have hz := zero_text ⟨f.toNat, by omega⟩
  simp only at hw hz
  rw [show ((f.toNat : Nat) : Int) = f by omega] at hw hz
  exact flagsP_own (hw ho).2 (fun h => by have := hz h (.inl ho); omega)
theorem flagsP_M {f : Int} (h0 : -9223372036854775808 ≤ f) (h1 : f ≤ 9223372036854775807) (ho : outF f 1055 = false) : flagsP 1055 (if flagsText f = [] then [] else splitL 32 (flagsText f)) = some f := by
  obtain ⟨ha, hb⟩ := outF_small (m := 1055) h0 h1 (by omega) ho
  have hw := ownM ⟨f.toNat, by omega⟩
  have hz := zero_text ⟨f.toNat, by omega⟩
  simp only at hw hz
  rw [show ((f.toNat : Nat) : Int) = f by omega] at hw hz
  exact flagsP_own (hw ho).2 (fun h => by have := hz h (.inr ho); omega)
theorem clsFlags_text {f : Int} (h0 : -9223372036854775808 ≤ f) (h1 : f ≤ 9223372036854775807) (ho : outF f 1585 = false) : clsFlagsP (splitL 32 (flLine f)) = some f ∧ namedP wIface (splitL 32 (flLine f)) = none := by
  unfold flLine
  rw [wordT_beh _ _ (lastC h0 h1), text_of ho, split_beh wFlags _ (by decide)]
  constructor
  · show (if wFlags = wFlags then flagsP 1585 _ else none) = _
    rw [if_pos rfl]
    exact flagsP_C h0 h1 ho
  · generalize (if flagsText f = [] then [] else splitL 32 (flagsText f)) = ps
    match ps with
    | [] => rfl
    | [b] =>
      show (if wFlags = wIface ∧ b ≠ [] then some b else none) = none
      rw [if_neg (fun h => absurd h.1 (by decide))]
    | b :: c :: t => rfl
theorem begin_text {nm ds : List UInt8} {f : Int} (h0 : -9223372036854775808 ≤ f) (h1 : f ≤ 9223372036854775807) (ho : outF f 1055 = false) (hn : nm ≠ []) (hn2 : (32 : UInt8) ∉ nm) (hd : ds ≠ []) (hd2 : (32 : UInt8) ∉ ds) :
    beginP (splitL 32 (wordT (methB ++ nm ++ [32] ++ ds) (flagText f 1055).1)) = some ⟨nm, ds, f, 0, 0, []⟩ := by
  rw [wordT_beh _ _ (lastM h0 h1), text_of ho, show methB ++ nm ++ [32] ++ ds ++ behT (flagsText f) = wMethod ++ 32 :: (nm ++ 32 :: (ds ++ behT (flagsText f))) by simp [methB, wMethod], splitL_cut 32 wMethod _ (by decide), splitL_cut 32 nm _ hn2, split_beh _ _ hd2]
  show (if wMethod = wMethod ∧ nm ≠ [] ∧ ds ≠ [] then (flagsP 1055 _).map fun f => (⟨nm, ds, f, 0, 0, []⟩ : MethS) else none) = _
  rw [if_pos ⟨rfl, hn, hd⟩, flagsP_M h0 h1 ho]
  rfl
theorem parseF_text {m : Int} {l : List UInt8} (h : (parseF m l).2 = 0) : (flagText (parseF m l).1 m).1 = l := by
  unfold parseF at h ⊢
  split at h
  · rename_i hc
    rw [if_pos hc]
    exact hc
  · cases h
theorem flagsP_inv {m f : Int} {ps : List (List UInt8)} (h : flagsP m ps = some f) : (ps = [] ∧ f = 0) ∨ (ps ≠ [] ∧ Lib.join ps [32] ≠ [] ∧ (flagText f m).1 = Lib.join ps [32]) := by
  unfold flagsP at h
  split at h
  · rename_i hp
    cases h
    exact .inl ⟨hp, rfl⟩
  · rename_i hp
    split at h
    · cases h
    · rename_i hj
      split at h
      · rename_i h0
        cases h
        exact .inr ⟨hp, hj, parseF_text h0⟩
      · cases h
theorem flags_line {m f : Int} {a : List UInt8} {ps : List (List UInt8)} {line : List UInt8} (hm : (flagText 0 m).1 = []) (hl : (flagText f m).1.getLast? ≠ some 32) (hs : line = if ps = [] then a else a ++ 32 :: Lib.join ps [32]) (h : flagsP m ps = some f) : line = wordT a (flagText f m).1 := by
  rw [wordT_beh _ _ hl]
  rcases flagsP_inv h with ⟨h1, h2⟩ | ⟨h1, h2, h3⟩
  · rw [hs, if_pos h1, h2, hm]
    simp [behT]
  · rw [hs, if_neg h1, h3]
    unfold behT
    rw [if_neg h2]
    rfl
theorem flag0 : (flagText 0 1585).1 = [] ∧ (flagText 0 1055).1 = [] := by decide +kernel
theorem clsFlags_inv {line : List UInt8} {f : Int} (h : clsFlagsP (splitL 32 line) = some f) : line = flLine f := by
  have hr := clsFlagsP_rng h
  obtain ⟨ps, hs⟩ : ∃ ps, splitL 32 line = ps := ⟨_, rfl⟩
  rw [hs] at h
  match ps, hs, h with
  | [], _, h => cases h
  | a :: t, hs, h =>
    replace h : (if a = wFlags then flagsP 1585 t else none) = some f := h
    split at h
    · rename_i ha
      subst ha
      refine flags_line (ps := t) flag0.1 (lastC hr.1 hr.2) ?_ h
      split
      · rename_i ht
        subst ht
        exact splitL_single hs
      · rename_i ht
        exact splitL_inv hs ht
    · cases h
theorem begin_inv {line : List UInt8} {m : MethS} (h : beginP (splitL 32 line) = some m) : line = mHead m ∧ m.code = [] := by
  obtain ⟨ps, hs⟩ : ∃ ps, splitL 32 line = ps := ⟨_, rfl⟩
  rw [hs] at h
  match ps, hs, h with
  | [], _, h => cases h
  | [a], _, h => cases h
  | [a, b], _, h => cases h
  | a :: b :: c :: t, hs, h =>
    replace h : (if a = wMethod ∧ b ≠ [] ∧ c ≠ [] then (flagsP 1055 t).map fun f => (⟨b, c, f, 0, 0, []⟩ : MethS) else none) = some m := h
    split at h
    · rename_i ha
      obtain ⟨f, hf, rfl⟩ := Option.map_eq_some_iff.1 h
      have hr := flagsP_rng hf
      refine ⟨?_, rfl⟩
      refine flags_line (ps := t) flag0.2 (lastM hr.1 hr.2) ?_ hf
      have h1 := splitL_inv hs (by simp)
      rw [join_cons 32 b _ (by simp)] at h1
      split
      · rename_i ht
        subst ht
        rw [h1, join_one, ha.1]
        simp [methB, wMethod]
      · rename_i ht
        rw [h1, join_cons 32 c _ ht, ha.1]
        simp [methB, wMethod]
    · cases h

/-! ### What has been read, as lines -/
def lastM_ (ms : List MethS) (k : Nat) : List (List UInt8) := match ms.getLast? with
  | none => []
  | some m => (mLines m).take k
def preT (r : RdS) : List (List UInt8) :=
  match r.st with
  | 0 => []
  | 1 => [wd2 wClass r.nm]
  | 2 => rHead r
  | 3 => rHead r ++ [flLine r.fl]
  | 4 => rTop r
  | 5 => rTop r ++ (r.ms.dropLast.flatMap mLines ++ lastM_ r.ms 1)
  | 6 => rTop r ++ (r.ms.dropLast.flatMap mLines ++ lastM_ r.ms 2)
  | 7 => rTop r ++ r.ms.flatMap mLines
  | _ => rLines r
structure RdS.ord (r : RdS) : Prop where
  ifs : r.st ≤ 1 → r.ifs = []
  ms : r.st ≤ 4 → r.ms = []
  ne : 5 ≤ r.st → r.st ≤ 7 → r.ms ≠ []
  code : r.st = 5 ∨ r.st = 6 → ∀ m, r.ms.getLast? = some m → m.code = []
theorem modify_last (init : List MethS) (m : MethS) (f : MethS → MethS) : (init ++ [m]).modify ((init ++ [m]).length - 1) f = init ++ [f m] := by
  rw [List.length_append]
  show (init ++ [m]).modify init.length f = _
  induction init with
  | nil => rfl
  | cons a t ih => exact congrArg (a :: ·) ih
theorem snoc_of {ms : List MethS} (h : ms ≠ []) : ∃ init m, ms = init ++ [m] := ⟨ms.dropLast, ms.getLast h, (List.dropLast_concat_getLast h).symm⟩
theorem lastM_snoc (init : List MethS) (m : MethS) (k : Nat) : lastM_ (init ++ [m]) k = (mLines m).take k := by
  unfold lastM_
  rw [List.getLast?_concat]
theorem step_pre {r r' : RdS} {line : List UInt8} (hr : r.ord) (h : stepL r line = some r') : r'.ord ∧ preT r' = preT r ++ [line] := by
  obtain ⟨h1, h2, h3, h4⟩ := hr
  obtain ⟨nm, sup, ifs, fl, ld, ms, st⟩ := r
  simp only at h1 h2 h3 h4
  unfold stepL at h
  split at h
  · rename_i hst
    simp only at hst
    subst hst
    obtain ⟨s, hs, rfl⟩ := Option.map_eq_some_iff.1 h
    refine ⟨⟨fun _ => h1 (by omega), fun _ => h2 (by omega), fun hx => absurd hx (by simp), fun hx => by simp at hx⟩, ?_⟩
    rw [(named_inv hs).1]
    rfl
  · rename_i hst
    simp only at hst
    subst hst
    obtain ⟨s, hs, rfl⟩ := Option.map_eq_some_iff.1 h
    refine ⟨⟨fun hx => absurd hx (by simp), fun _ => h2 (by omega), fun hx => absurd hx (by simp), fun hx => by simp at hx⟩, ?_⟩
    have hi := h1 (by omega)
    subst hi
    rw [(named_inv hs).1]
    rfl
  · rename_i hst
    simp only at hst
    subst hst
    split at h
    · rename_i s hs
      cases h
      refine ⟨⟨fun hx => absurd hx (by simp), fun _ => h2 (by omega), fun hx => absurd hx (by simp), fun hx => by simp at hx⟩, ?_⟩
      rw [(named_inv hs).1]
      show rHead ⟨nm, sup, ifs ++ [s], fl, ld, ms, 2⟩ = rHead ⟨nm, sup, ifs, fl, ld, ms, 2⟩ ++ _
      simp [rHead]
    · obtain ⟨f, hf, rfl⟩ := Option.map_eq_some_iff.1 h
      refine ⟨⟨fun hx => absurd hx (by simp), fun _ => h2 (by omega), fun hx => absurd hx (by simp), fun hx => by simp at hx⟩, ?_⟩
      rw [clsFlags_inv hf]
      rfl
  · rename_i hst
    simp only at hst
    subst hst
    obtain ⟨n, hn, rfl⟩ := Option.map_eq_some_iff.1 h
    refine ⟨⟨fun hx => absurd hx (by simp), fun _ => h2 (by omega), fun hx => absurd hx (by simp), fun hx => by simp at hx⟩, ?_⟩
    rw [numbered_inv hn]
    show rHead _ ++ [flLine fl, wd2 wLoader (Lib.itoa n)] = rHead _ ++ [flLine fl] ++ [wd2 wLoader (Lib.itoa n)]
    rw [List.append_assoc]
    rfl
  · rename_i hst
    simp only at hst
    subst hst
    have hm := h2 (by omega)
    subst hm
    split at h
    · rename_i hl
      cases h
      refine ⟨⟨fun hx => absurd hx (by simp), fun _ => rfl, fun _ hx => absurd hx (by simp), fun hx => by simp at hx⟩, ?_⟩
      rw [hl]
      show rTop _ ++ [] ++ [wEnd] = rTop _ ++ [wEnd]
      rw [List.append_nil]
      rfl
    · obtain ⟨m, hm, rfl⟩ := Option.map_eq_some_iff.1 h
      obtain ⟨hb1, hb2⟩ := begin_inv hm
      refine ⟨⟨fun hx => absurd hx (by simp), fun hx => absurd hx (by simp), fun _ _ => by simp, fun _ x hx => by simp at hx; rw [← hx]; exact hb2⟩, ?_⟩
      rw [hb1]
      rfl
  · rename_i hst
    simp only at hst
    subst hst
    obtain ⟨n, hn, rfl⟩ := Option.map_eq_some_iff.1 h
    obtain ⟨init, m, rfl⟩ := snoc_of (h3 (by omega) (by omega))
    rw [modify_last]
    have hc := h4 (.inl rfl) m (by simp)
    refine ⟨⟨fun hx => absurd hx (by simp), fun hx => absurd hx (by simp), fun _ _ => by simp, fun _ x hx => by simp at hx; rw [← hx]; exact hc⟩, ?_⟩
    rw [numbered_inv hn]
    show rTop _ ++ ((init ++ [_]).dropLast.flatMap mLines ++ lastM_ (init ++ [_]) 2) = rTop _ ++ ((init ++ [m]).dropLast.flatMap mLines ++ lastM_ (init ++ [m]) 1) ++ [_]
    rw [lastM_snoc, lastM_snoc, List.dropLast_concat, List.dropLast_concat, List.append_assoc, List.append_assoc]
    rfl
  · rename_i hst
    simp only at hst
    subst hst
    obtain ⟨n, hn, rfl⟩ := Option.map_eq_some_iff.1 h
    obtain ⟨init, m, rfl⟩ := snoc_of (h3 (by omega) (by omega))
    rw [modify_last]
    have hc := h4 (.inr rfl) m (by simp)
    refine ⟨⟨fun hx => absurd hx (by simp), fun hx => absurd hx (by simp), fun _ _ => by simp, fun hx => by simp at hx⟩, ?_⟩
    rw [numbered_inv hn]
    obtain ⟨mn, md, mf, ml, mt, mc⟩ := m
    simp only at hc
    subst hc
    show rTop _ ++ ((init ++ [_]).flatMap mLines) = rTop _ ++ ((init ++ [_]).dropLast.flatMap mLines ++ lastM_ (init ++ [_]) 2) ++ [_]
    rw [lastM_snoc, List.dropLast_concat, List.append_assoc, List.append_assoc, List.flatMap_append]
    rfl
  · rename_i hst
    simp only at hst
    subst hst
    split at h
    · rename_i hl
      cases h
      refine ⟨⟨fun hx => absurd hx (by simp), fun hx => absurd hx (by simp), fun _ hx => absurd hx (by simp), fun hx => by simp at hx⟩, ?_⟩
      rw [hl]
      rfl
    · split at h
      · rename_i m hm
        cases h
        obtain ⟨hb1, hb2⟩ := begin_inv hm
        refine ⟨⟨fun hx => absurd hx (by simp), fun hx => absurd hx (by simp), fun _ _ => by simp, fun _ x hx => by simp at hx; rw [← hx]; exact hb2⟩, ?_⟩
        rw [hb1]
        show rTop _ ++ ((ms ++ [m]).dropLast.flatMap mLines ++ lastM_ (ms ++ [m]) 1) = rTop _ ++ ms.flatMap mLines ++ [mHead m]
        rw [lastM_snoc, List.dropLast_concat, List.append_assoc]
        rfl
      · split at h
        · rename_i hp
          cases h
          obtain ⟨init, m, rfl⟩ := snoc_of (h3 (by omega) (by omega))
          rw [modify_last]
          refine ⟨⟨fun hx => absurd hx (by simp), fun hx => absurd hx (by simp), fun _ _ => by simp, fun hx => by simp at hx⟩, ?_⟩
          have ht := (parseOut_good hp).2.1
          show rTop ⟨nm, sup, ifs, fl, ld, [], 7⟩ ++ (init ++ [_]).flatMap mLines = rTop ⟨nm, sup, ifs, fl, ld, [], 7⟩ ++ (init ++ [m]).flatMap mLines ++ [line]
          rw [List.append_assoc, List.flatMap_append, List.flatMap_append, List.append_assoc]
          congr 2
          simp only [List.flatMap_cons, List.flatMap_nil, List.append_nil, mLines, List.map_append, List.map_cons, List.map_nil, ht]
          rfl
        · cases h
  · cases h
theorem steps_pre : ∀ (ls : List (List UInt8)) (r r' : RdS), r.ord → stepsL r ls = some r' → preT r' = preT r ++ ls
  | [], r, r', _, h => by
    cases h
    simp
  | x :: t, r, r', hr, h => by
    obtain ⟨r1, h1, h2⟩ := Option.bind_eq_some_iff.1 h
    obtain ⟨ho, hp⟩ := step_pre hr h1
    rw [steps_pre t r1 r' ho h2, hp, List.append_assoc]
    rfl
theorem ord0 : rd0.ord := ⟨fun _ => rfl, fun _ => rfl, fun hx => absurd hx (by decide), fun hx => by rcases hx with hx | hx <;> cases hx⟩
/-- A text that is read is written again as it was. -/
theorem read_back {l : List UInt8} {r : RdS} {n : Nat} (h : readL rd0 (splitL 10 l) n = .inl r) : printL (clsS r) = l := by
  obtain ⟨ls, h1, h2, h3⟩ := read_steps _ _ _ _ h
  have hp := steps_pre ls rd0 r ord0 h2
  have h4 : preT r = rLines r := by
    unfold preT
    rw [h3]
    rfl
  have h5 : rLines r = ls := by
    rw [← h4, hp]
    rfl
  rw [print_lines, h5, ← join_ends, ← h1, join_split]
theorem text_back {l : List UInt8} {r : RdS} (h : textO l = .inl r) : printL (clsS r) = l ∧ checkB (clsS r) = true := by
  unfold textO at h
  split at h
  · cases h
  · split at h
    · cases h
    · rename_i r1 hr
      split at h
      · rename_i hc
        cases h
        exact ⟨read_back hr, hc⟩
      · cases h
theorem text_fault {l : List UInt8} {n : Nat} {e : Int} (h : textO l = .inr (n, e)) : (e = 4 ∧ 1 ≤ n ∧ n ≤ (splitL 10 l).length) ∨ (n = 0 ∧ (e = 1 ∨ e = 5)) := by
  unfold textO at h
  split at h
  · cases h
    exact .inr ⟨rfl, .inr rfl⟩
  · split at h
    · rename_i k hr
      cases h
      have := read_fault _ _ _ _ (splitL_ne 10 l) hr
      exact .inl ⟨rfl, this.1, by omega⟩
    · split at h
      · cases h
      · cases h
        exact .inr ⟨rfl, .inl rfl⟩
end Go.Proofs.YtjjdlgjofjfgmaaGreatDoor
/-
  A sound class's text is read as it; plain laws. No program text.
-/
set_option linter.unusedSimpArgs false
set_option linter.unusedVariables false
namespace Go.Proofs.YtjjdlgjofjfgmaaGreatDoor
open Go.RowKit

def word0 (l : List UInt8) : Prop := l ≠ [] ∧ ∀ b, b ∈ l → noWs b
structure MethS.snd (m : MethS) : Prop where
  nm : word0 m.nm
  ds : word0 m.ds
  fl : outF m.fl 1055 = false ∧ rng m.fl
  lo : 0 ≤ m.lo ∧ m.lo ≤ 40
  st : 0 ≤ m.st ∧ m.st ≤ 40
  code : ∀ i, i ∈ m.code → i.ok = true ∧ i.num
structure RdS.snd (r : RdS) : Prop where
  nm : word0 r.nm
  sup : word0 r.sup
  ifs : ∀ x, x ∈ r.ifs → word0 x
  fl : outF r.fl 1585 = false ∧ rng r.fl
  ld : 0 ≤ r.ld ∧ r.ld ≤ 9
  ms : ∀ m, m ∈ r.ms → m.snd

theorem steps_ifs (nm sup : List UInt8) (fl ld : Int) (ms : List MethS) : ∀ (l pre : List (List UInt8)), (∀ x, x ∈ l → word0 x) → stepsL ⟨nm, sup, pre, fl, ld, ms, 2⟩ (l.map (wd2 wIface)) = some ⟨nm, sup, pre ++ l, fl, ld, ms, 2⟩
  | [], pre, _ => by
    rw [List.append_nil]
    rfl
  | x :: t, pre, h => by
    have hx := h x (by simp)
    have hs : stepL ⟨nm, sup, pre, fl, ld, ms, 2⟩ (wd2 wIface x) = some ⟨nm, sup, pre ++ [x], fl, ld, ms, 2⟩ := by
      show (match namedP wIface (splitL 32 (wd2 wIface x)) with | some s => some (⟨nm, sup, pre ++ [s], fl, ld, ms, 2⟩ : RdS) | none => (clsFlagsP (splitL 32 (wd2 wIface x))).map fun f => ⟨nm, sup, pre, f, ld, ms, 3⟩) = _
      rw [named_wd2 wIface x (by decide) hx.1 (no32 hx.2)]
    rw [List.map_cons, steps_one hs, steps_ifs nm sup fl ld ms t (pre ++ [x]) (fun y hy => h y (List.mem_cons_of_mem _ hy)), List.append_assoc]
    rfl
theorem begin_head {line : List UInt8} {m : MethS} (h : beginP (splitL 32 line) = some m) : ∃ ps, splitL 32 line = wMethod :: ps := by
  obtain ⟨ps, hs⟩ : ∃ ps, splitL 32 line = ps := ⟨_, rfl⟩
  rw [hs] at h ⊢
  match ps, h with
  | [], h => cases h
  | [a], h => cases h
  | [a, b], h => cases h
  | a :: b :: c :: t, h =>
    replace h : (if a = wMethod ∧ b ≠ [] ∧ c ≠ [] then (flagsP 1055 t).map fun f => (⟨b, c, f, 0, 0, []⟩ : MethS) else none) = some m := h
    split at h
    · rename_i ha
      exact ⟨b :: c :: t, by rw [ha.1]⟩
    · cases h
theorem end_split : splitL 32 wEnd = [wEnd] := by decide
theorem end_code : (parseOut wEnd).2 ≠ 0 := by decide +kernel
theorem step7 (nm sup : List UInt8) (ifs : List (List UInt8)) (fl ld : Int) (ms : List MethS) (line : List UInt8) : stepL ⟨nm, sup, ifs, fl, ld, ms, 7⟩ line = if line = wEnd then some ⟨nm, sup, ifs, fl, ld, ms, 8⟩ else match beginP (splitL 32 line) with
    | some m => some ⟨nm, sup, ifs, fl, ld, ms ++ [m], 5⟩
    | none => if (parseOut line).2 = 0 then some ⟨nm, sup, ifs, fl, ld, ms.modify (ms.length - 1) fun m => { m with code := m.code ++ [(parseOut line).1] }, 7⟩ else none := rfl
theorem step4 (nm sup : List UInt8) (ifs : List (List UInt8)) (fl ld : Int) (ms : List MethS) (line : List UInt8) : stepL ⟨nm, sup, ifs, fl, ld, ms, 4⟩ line = if line = wEnd then some ⟨nm, sup, ifs, fl, ld, ms, 8⟩ else (beginP (splitL 32 line)).map fun m => ⟨nm, sup, ifs, fl, ld, ms ++ [m], 5⟩ := rfl
theorem step_code {nm sup : List UInt8} {ifs : List (List UInt8)} {fl ld : Int} {init : List MethS} {m : MethS} {i : InstL} (h1 : i.ok = true) (h2 : i.num) :
    stepL ⟨nm, sup, ifs, fl, ld, init ++ [m], 7⟩ i.text = some ⟨nm, sup, ifs, fl, ld, init ++ [{ m with code := m.code ++ [i] }], 7⟩ := by
  have hp := parseOut_text h1 h2
  have he : i.text ≠ wEnd := fun e => by
    rw [e] at hp
    exact end_code (congrArg Prod.snd hp)
  have hb : beginP (splitL 32 i.text) = none := by
    cases hb : beginP (splitL 32 i.text) with
    | none => rfl
    | some m' =>
      obtain ⟨ps, hs⟩ := begin_head hb
      have := parseOut_method hs
      rw [hp] at this
      cases this
  rw [step7, if_neg he, hb]
  show (if (parseOut i.text).2 = 0 then some _ else none) = _
  rw [hp, if_pos rfl, modify_last]
theorem steps_code (nm sup : List UInt8) (ifs : List (List UInt8)) (fl ld : Int) (init : List MethS) : ∀ (l : List InstL) (m : MethS), (∀ i, i ∈ l → i.ok = true ∧ i.num) → stepsL ⟨nm, sup, ifs, fl, ld, init ++ [m], 7⟩ (l.map InstL.text) = some ⟨nm, sup, ifs, fl, ld, init ++ [{ m with code := m.code ++ l }], 7⟩
  | [], m, _ => by
    rw [List.append_nil]
    rfl
  | i :: t, m, h => by
    have hi := h i (by simp)
    rw [List.map_cons, steps_one (step_code hi.1 hi.2), steps_code nm sup ifs fl ld init t _ (fun y hy => h y (List.mem_cons_of_mem _ hy))]
    show some (⟨nm, sup, ifs, fl, ld, init ++ [{ m with code := m.code ++ [i] ++ t }], 7⟩ : RdS) = _
    rw [List.append_assoc]
    rfl
theorem steps_meth {nm sup : List UInt8} {ifs : List (List UInt8)} {fl ld : Int} {init : List MethS} {m : MethS} {k : Nat} (hk : k = 4 ∨ k = 7) (h : m.snd) : stepsL ⟨nm, sup, ifs, fl, ld, init, k⟩ (mLines m) = some ⟨nm, sup, ifs, fl, ld, init ++ [m], 7⟩ := by
  obtain ⟨⟨n1, n2⟩, ⟨d1, d2⟩, ⟨f1, f2⟩, ⟨l1, l2⟩, ⟨s1, s2⟩, hc⟩ := h
  obtain ⟨mn, md, mf, lo, st, code⟩ := m
  simp only at n1 n2 d1 d2 f1 f2 l1 l2 s1 s2 hc
  have hb : beginP (splitL 32 (mHead ⟨mn, md, mf, lo, st, code⟩)) = some ⟨mn, md, mf, 0, 0, []⟩ := begin_text f2.1 f2.2 f1 n1 (no32 n2) d1 (no32 d2)
  have he : mHead ⟨mn, md, mf, lo, st, code⟩ ≠ wEnd := fun e => by
    rw [e] at hb
    obtain ⟨ps, hs⟩ := begin_head hb
    rw [end_split] at hs
    exact absurd (List.cons.inj hs).1 (by decide)
  have q1 : stepL ⟨nm, sup, ifs, fl, ld, init, k⟩ (mHead ⟨mn, md, mf, lo, st, code⟩) = some ⟨nm, sup, ifs, fl, ld, init ++ [⟨mn, md, mf, 0, 0, []⟩], 5⟩ := by
    rcases hk with rfl | rfl
    · rw [step4, if_neg he, hb]
      rfl
    · rw [step7, if_neg he, hb]
  have q2 : stepL ⟨nm, sup, ifs, fl, ld, init ++ [⟨mn, md, mf, 0, 0, []⟩], 5⟩ (wd2 wLocals (Lib.itoa lo)) = some ⟨nm, sup, ifs, fl, ld, init ++ [⟨mn, md, mf, lo, 0, []⟩], 6⟩ := by
    show (numberedP wLocals (splitL 32 (wd2 wLocals (Lib.itoa lo)))).map (fun n => (⟨nm, sup, ifs, fl, ld, (init ++ [(⟨mn, md, mf, 0, 0, []⟩ : MethS)]).modify ((init ++ [(⟨mn, md, mf, 0, 0, []⟩ : MethS)]).length - 1) fun m => { m with lo := n }, 6⟩ : RdS)) = _
    rw [numbered_wd2 wLocals (by decide) l1 (by omega)]
    show some (⟨nm, sup, ifs, fl, ld, (init ++ [(⟨mn, md, mf, 0, 0, []⟩ : MethS)]).modify ((init ++ [(⟨mn, md, mf, 0, 0, []⟩ : MethS)]).length - 1) fun m => { m with lo := lo }, 6⟩ : RdS) = _
    rw [modify_last]
  have q3 : stepL ⟨nm, sup, ifs, fl, ld, init ++ [⟨mn, md, mf, lo, 0, []⟩], 6⟩ (wd2 wStack (Lib.itoa st)) = some ⟨nm, sup, ifs, fl, ld, init ++ [⟨mn, md, mf, lo, st, []⟩], 7⟩ := by
    show (numberedP wStack (splitL 32 (wd2 wStack (Lib.itoa st)))).map (fun n => (⟨nm, sup, ifs, fl, ld, (init ++ [(⟨mn, md, mf, lo, 0, []⟩ : MethS)]).modify ((init ++ [(⟨mn, md, mf, lo, 0, []⟩ : MethS)]).length - 1) fun m => { m with st := n }, 7⟩ : RdS)) = _
    rw [numbered_wd2 wStack (by decide) s1 (by omega)]
    show some (⟨nm, sup, ifs, fl, ld, (init ++ [(⟨mn, md, mf, lo, 0, []⟩ : MethS)]).modify ((init ++ [(⟨mn, md, mf, lo, 0, []⟩ : MethS)]).length - 1) fun m => { m with st := st }, 7⟩ : RdS) = _
    rw [modify_last]
  show stepsL _ (mHead ⟨mn, md, mf, lo, st, code⟩ :: wd2 wLocals (Lib.itoa lo) :: wd2 wStack (Lib.itoa st) :: code.map InstL.text) = _
  rw [steps_one q1, steps_one q2, steps_one q3, steps_code nm sup ifs fl ld init code _ hc]
  rfl
theorem steps_ms (nm sup : List UInt8) (ifs : List (List UInt8)) (fl ld : Int) : ∀ (l init : List MethS) (k : Nat), (k = 4 ∨ k = 7) → (∀ m, m ∈ l → m.snd) → ∃ k', (k' = 4 ∨ k' = 7) ∧ stepsL ⟨nm, sup, ifs, fl, ld, init, k⟩ (l.flatMap mLines) = some ⟨nm, sup, ifs, fl, ld, init ++ l, k'⟩
  | [], init, k, hk, _ => ⟨k, hk, by rw [List.append_nil]; rfl⟩
  | m :: t, init, k, hk, h => by
    obtain ⟨k', hk', hs⟩ := steps_ms nm sup ifs fl ld t (init ++ [m]) 7 (.inr rfl) (fun y hy => h y (List.mem_cons_of_mem _ hy))
    refine ⟨k', hk', ?_⟩
    rw [List.flatMap_cons, steps_then (steps_meth hk (h m (by simp))), hs, List.append_assoc]
    rfl
theorem steps_all {r : RdS} (h8 : r.st = 8) (h : r.snd) : stepsL rd0 (rLines r) = some r := by
  obtain ⟨⟨n1, n2⟩, ⟨u1, u2⟩, hi, ⟨f1, f2⟩, ⟨l1, l2⟩, hm⟩ := h
  obtain ⟨nm, sup, ifs, fl, ld, ms, st⟩ := r
  simp only at h8 n1 n2 u1 u2 hi f1 f2 l1 l2 hm
  subst h8
  have q1 : stepL rd0 (wd2 wClass nm) = some ⟨nm, [], [], 0, 0, [], 1⟩ := by
    show (namedP wClass (splitL 32 (wd2 wClass nm))).map (fun s => (⟨s, [], [], 0, 0, [], 1⟩ : RdS)) = _
    rw [named_wd2 wClass nm (by decide) n1 (no32 n2)]
    rfl
  have q2 : stepL ⟨nm, [], [], 0, 0, [], 1⟩ (wd2 wSuper sup) = some ⟨nm, sup, [], 0, 0, [], 2⟩ := by
    show (namedP wSuper (splitL 32 (wd2 wSuper sup))).map (fun s => (⟨nm, s, [], 0, 0, [], 2⟩ : RdS)) = _
    rw [named_wd2 wSuper sup (by decide) u1 (no32 u2)]
    rfl
  obtain ⟨c1, c2⟩ := clsFlags_text f2.1 f2.2 f1
  have q3 : stepL ⟨nm, sup, ifs, 0, 0, [], 2⟩ (flLine fl) = some ⟨nm, sup, ifs, fl, 0, [], 3⟩ := by
    show (match namedP wIface (splitL 32 (flLine fl)) with | some s => some (⟨nm, sup, ifs ++ [s], 0, 0, [], 2⟩ : RdS) | none => (clsFlagsP (splitL 32 (flLine fl))).map fun f => ⟨nm, sup, ifs, f, 0, [], 3⟩) = _
    rw [c2, c1]
    rfl
  have q4 : stepL ⟨nm, sup, ifs, fl, 0, [], 3⟩ (wd2 wLoader (Lib.itoa ld)) = some ⟨nm, sup, ifs, fl, ld, [], 4⟩ := by
    show (numberedP wLoader (splitL 32 (wd2 wLoader (Lib.itoa ld)))).map (fun n => (⟨nm, sup, ifs, fl, n, [], 4⟩ : RdS)) = _
    rw [numbered_wd2 wLoader (by decide) l1 (by omega)]
    rfl
  obtain ⟨k', hk', hms⟩ := steps_ms nm sup ifs fl ld ms [] 4 (.inl rfl) hm
  have q5 : stepL ⟨nm, sup, ifs, fl, ld, ms, k'⟩ wEnd = some ⟨nm, sup, ifs, fl, ld, ms, 8⟩ := by
    rcases hk' with rfl | rfl
    · rw [step4, if_pos rfl]
    · rw [step7, if_pos rfl]
  have qi := steps_ifs nm sup 0 0 [] ifs [] hi
  show stepsL rd0 (wd2 wClass nm :: wd2 wSuper sup :: ifs.map (wd2 wIface) ++ [flLine fl, wd2 wLoader (Lib.itoa ld)] ++ ms.flatMap mLines ++ [wEnd]) = _
  rw [List.append_assoc, List.append_assoc, List.cons_append, List.cons_append, steps_one q1, steps_one q2, steps_then qi]
  show stepsL ⟨nm, sup, ifs, 0, 0, [], 2⟩ (flLine fl :: wd2 wLoader (Lib.itoa ld) :: (ms.flatMap mLines ++ [wEnd])) = _
  rw [steps_one q3, steps_one q4, steps_then hms]
  show stepsL ⟨nm, sup, ifs, fl, ld, ms, k'⟩ [wEnd] = _
  rw [steps_one q5]
  rfl

/-! ### No line holds an end of line -/
theorem flags_no10 : ∀ f : Fin 2048, (10 : UInt8) ∉ flagsText (f.val : Int) := by decide +kernel
theorem behT_no10 {f : Int} {m : Nat} (hm : m < 2048) (h0 : rng f) (ho : outF f m = false) : (10 : UInt8) ∉ behT (flagText f m).1 := by
  obtain ⟨ha, hb⟩ := outF_small h0.1 h0.2 hm ho
  have h := flags_no10 ⟨f.toNat, by omega⟩
  simp only at h
  rw [show ((f.toNat : Nat) : Int) = f by omega] at h
  rw [text_of ho]
  unfold behT
  split
  · simp
  · intro hx
    rcases List.mem_append.1 hx with hx | hx
    · simp at hx
    · exact h hx
theorem wd2_no10 {a b : List UInt8} (h1 : (10 : UInt8) ∉ a) (h2 : (10 : UInt8) ∉ b) : (10 : UInt8) ∉ wd2 a b := fun h => by
  rcases List.mem_append.1 h with h | h
  · exact h1 h
  · rcases List.mem_cons.1 h with h | h
    · exact absurd h (by decide)
    · exact h2 h
theorem join_no10 : ∀ ps : List (List UInt8), (∀ p, p ∈ ps → (10 : UInt8) ∉ p) → (10 : UInt8) ∉ Lib.join ps [32]
  | [], _ => by simp [Lib.join, List.intercalate, List.intersperse]
  | [a], h => by
    rw [join_one]
    exact h a (by simp)
  | a :: b :: t, h => by
    rw [join_cons 32 a _ (by simp)]
    exact wd2_no10 (h a (by simp)) (join_no10 (b :: t) (fun p hp => h p (List.mem_cons_of_mem _ hp)))
theorem text_no10 {i : InstL} (h : i.ok = true) : (10 : UInt8) ∉ i.text := join_no10 _ (fun p hp => no10 (parts_no h p hp))
theorem mLines_no10 {m : MethS} (h : m.snd) : ∀ x, x ∈ mLines m → (10 : UInt8) ∉ x := by
  intro x hx
  rcases List.mem_cons.1 hx with rfl | hx
  · unfold mHead
    rw [wordT_beh _ _ (lastM h.fl.2.1 h.fl.2.2)]
    intro hm
    rcases List.mem_append.1 hm with hm | hm
    · rcases List.mem_append.1 hm with hm | hm
      · rcases List.mem_append.1 hm with hm | hm
        · rcases List.mem_append.1 hm with hm | hm
          · exact absurd hm (by decide)
          · exact no10 h.nm.2 hm
        · exact absurd hm (by decide)
      · exact no10 h.ds.2 hm
    · exact behT_no10 (m := 1055) (by omega) h.fl.2 h.fl.1 hm
  · rcases List.mem_cons.1 hx with rfl | hx
    · exact wd2_no10 (by decide) (no10 (itoa_no _))
    · rcases List.mem_cons.1 hx with rfl | hx
      · exact wd2_no10 (by decide) (no10 (itoa_no _))
      · obtain ⟨i, hi, rfl⟩ := List.mem_map.1 hx
        exact text_no10 (h.code i hi).1
theorem rLines_no10 {r : RdS} (h : r.snd) : ∀ x, x ∈ rLines r → (10 : UInt8) ∉ x := by
  intro x hx
  rcases List.mem_append.1 hx with hx | hx
  · rcases List.mem_append.1 hx with hx | hx
    · rcases List.mem_append.1 hx with hx | hx
      · rcases List.mem_cons.1 hx with rfl | hx
        · exact wd2_no10 (by decide) (no10 h.nm.2)
        · rcases List.mem_cons.1 hx with rfl | hx
          · exact wd2_no10 (by decide) (no10 h.sup.2)
          · obtain ⟨i, hi, rfl⟩ := List.mem_map.1 hx
            exact wd2_no10 (by decide) (no10 (h.ifs i hi).2)
      · rcases List.mem_cons.1 hx with rfl | hx
        · unfold flLine
          rw [wordT_beh _ _ (lastC h.fl.2.1 h.fl.2.2)]
          intro hm
          rcases List.mem_append.1 hm with hm | hm
          · exact absurd hm (by decide)
          · exact behT_no10 (m := 1585) (by omega) h.fl.2 h.fl.1 hm
        · rcases List.mem_cons.1 hx with rfl | hx
          · exact wd2_no10 (by decide) (no10 (itoa_no _))
          · cases hx
    · obtain ⟨m, hm, hx⟩ := List.mem_flatMap.1 hx
      exact mLines_no10 (h.ms m hm) x hx
  · rcases List.mem_cons.1 hx with rfl | hx
    · decide
    · cases hx
/-- A sound class's text is read as it. -/
theorem text_read {r : RdS} (h8 : r.st = 8) (h : r.snd) (hc : checkB (clsS r) = true) (hl : (printL (clsS r)).length ≤ 40000) : textO (printL (clsS r)) = .inl r := by
  unfold textO
  rw [if_neg (by omega), print_lines, split_ends _ (rLines_no10 h), steps_read _ _ _ _ (steps_all h8 h) h8]
  show (if checkB (clsS r) = true then Sum.inl r else Sum.inr (0, 1)) = _
  rw [if_pos hc]

/-! ### A class in memory -/
def methSOf (m : MethL) : MethS := ⟨m.nm, m.ds, m.fl, m.lo, m.st, m.code⟩
def rdOf (c : ClassL) : RdS := ⟨c.nm, c.sup, c.ifs, c.fl, c.ld, c.ms.map methSOf, 8⟩
def slOf (m : MethL) : Value := .slice m.A m.code.length m.cap
theorem meths_of : ∀ ms : List MethL, List.zipWith methOf (ms.map methSOf) (ms.map slOf) = ms
  | [] => rfl
  | m :: t => by
    show methOf (methSOf m) (slOf m) :: List.zipWith methOf (t.map methSOf) (t.map slOf) = m :: t
    rw [meths_of t]
    rfl
theorem cls_of (c : ClassL) : clsOf (rdOf c) (.slice c.AI c.ifs.length c.cI) (.slice c.AM c.ms.length c.cM) (c.ms.map slOf) = c := by
  unfold clsOf rdOf
  show ClassL.mk _ _ _ _ _ _ _ _ _ (List.zipWith methOf (c.ms.map methSOf) (c.ms.map slOf)) = c
  rw [meths_of]
  rfl
theorem check_of (c : ClassL) : checkB (clsS (rdOf c)) = checkB c := by
  have := check_same (rdOf c) (.slice c.AI c.ifs.length c.cI) (.slice c.AM c.ms.length c.cM) (c.ms.map slOf) (by simp [rdOf])
  rw [cls_of] at this
  exact this.symm
theorem printMs_of : ∀ ms : List MethL, ((ms.map methSOf).map methS0).flatMap methT = ms.flatMap methT
  | [] => rfl
  | m :: t => by
    rw [List.map_cons, List.map_cons, List.flatMap_cons, List.flatMap_cons, printMs_of t]
    rfl
theorem print_of (c : ClassL) : printL (clsS (rdOf c)) = printL c := by
  show midT c ++ ((c.ms.map methSOf).map methS0).flatMap methT ++ lineT [endB] = _
  rw [printMs_of]
  rfl
theorem validB_word {l : List UInt8} (h : validB l = true) : word0 l := by
  refine ⟨fun e => ?_, fun b hb => clsB_no (validB_mem h b hb)⟩
  rw [e, validB_nil] at h
  cases h
theorem memberB_word {l : List UInt8} (h : memberB l = true) : word0 l := by
  refine ⟨fun e => ?_, memberB_no h⟩
  rw [e] at h
  exact absurd h (by decide)
theorem descL_word {l : List UInt8} (h : (descL l).2 = 0) : word0 l := by
  refine ⟨fun e => ?_, descL_no h⟩
  rw [e] at h
  exact absurd h (by decide)
theorem ifsB_valid {nm : List UInt8} {l : List (List UInt8)} (h : ifsB nm l = true) : ∀ x, x ∈ l → validB x = true := by
  intro x hx
  obtain ⟨i, hi, rfl⟩ := List.getElem_of_mem hx
  unfold ifsB at h
  have := List.all_eq_true.1 h i (List.mem_range.2 hi)
  rw [List.getD_eq_getElem?_getD, List.getElem?_eq_getElem hi] at this
  unfold ifB at this
  simp only [Bool.and_eq_true] at this
  exact this.1.1
theorem wordsL_pos (ds : List UInt8) (fl : Int) : 0 ≤ (wordsL ds fl).1 := by
  unfold wordsL
  split
  · simp only
    split <;> omega
  · exact Int.le_refl 0
theorem allOk_ok {l : List InstL} {lo : Int} (h : allOk l lo = true) : ∀ i, i ∈ l → i.ok = true := by
  intro i hi
  unfold allOk at h
  rw [Bool.and_eq_true] at h
  have := List.all_eq_true.1 h.2 i hi
  unfold badI at this
  simp only [Bool.not_eq_true', Bool.or_eq_false_iff, Bool.not_eq_false'] at this
  exact this.1.1
theorem snd_of {c : ClassL} {w : World} (hf : c.fit w) (hc : checkB c = true) : (rdOf c).snd := by
  obtain ⟨-, -, hh, hm⟩ := check_parts hc
  obtain ⟨h1, h2, -, h4, h5, h6, h7⟩ := header_parts hh
  refine ⟨validB_word h1, validB_word h2, fun x hx => validB_word (ifsB_valid h5 x hx), ⟨?_, hf.flN⟩, ⟨h6, h7⟩, fun m hmm => ?_⟩
  · show outF c.fl 1585 = false
    unfold classF at h4
    simp only [Bool.and_eq_true, Bool.not_eq_true', Bool.or_eq_false_iff] at h4
    exact h4.1.1
  · obtain ⟨x, hx, rfl⟩ := List.mem_map.1 hmm
    obtain ⟨i, hi, rfl⟩ := List.getElem_of_mem hx
    obtain ⟨a1, a2, a3, a4, a5⟩ := method_parts (hm i hi).1
    have hft := hf.meths _ (List.getElem_mem hi)
    have hlo : 0 ≤ c.ms[i].lo ∧ c.ms[i].lo ≤ 40 ∧ 0 ≤ c.ms[i].st ∧ c.ms[i].st ≤ 40 ∧ ∀ j, j ∈ c.ms[i].code → j.ok = true := by
      cases ha : anyF c.ms[i].fl 1024 with
      | true =>
        obtain ⟨b1, b2, b3⟩ := a4 ha
        refine ⟨by omega, by omega, by omega, by omega, fun j hj => ?_⟩
        rw [b3] at hj
        cases hj
      | false =>
        obtain ⟨b1, b2, b3, b4, b5⟩ := a5 ha
        have := wordsL_pos c.ms[i].ds c.ms[i].fl
        exact ⟨by omega, by omega, by omega, by omega, allOk_ok b5⟩
    refine ⟨memberB_word a2, descL_word a1, ⟨?_, hft.num.1⟩, ⟨hlo.1, hlo.2.1⟩, ⟨hlo.2.2.1, hlo.2.2.2.1⟩, fun j hj => ⟨hlo.2.2.2.2 j hj, hft.nums j hj⟩⟩
    show outF c.ms[i].fl 1055 = false
    unfold methodF at a3
    simp only [Bool.and_eq_true, Bool.not_eq_true'] at a3
    exact a3.1.1.1.1
/-- A sound class is read out of its own text. -/
theorem class_read {c : ClassL} {w : World} (hf : c.fit w) (hc : checkB c = true) (hl : (printL c).length ≤ 40000) : textO (printL c) = .inl (rdOf c) := by
  have := text_read (r := rdOf c) rfl (snd_of hf hc) (by rw [check_of]; exact hc) (by rw [print_of]; exact hl)
  rw [print_of] at this
  exact this
end Go.Proofs.YtjjdlgjofjfgmaaGreatDoor
/-
  The document's Same at two classes of one content, walked. (Printed by gen_sameC.py.)
-/
set_option linter.unusedSimpArgs false
set_option linter.unusedVariables false
namespace Go.Proofs.YtjjdlgjofjfgmaaGreatDoor
open Go.RowKit Go.Sort

def eqRel (n : Nat) (w : World) (t : Value) (wr : World) : Prop := ∃ k : Nat, t = .int .i64 k ∧ k ≤ n ∧ Hid (Upd w wr [])

set_option maxHeartbeats 4000000 in
set_option maxRecDepth 100000 in
theorem sameTexts_any (A B : Option Addr) (c1 c2 : Nat) (l : List (List UInt8)) (w : World) (hA : StrsAt w A l) (hB : StrsAt w B l) (hl : l.length ≤ 9000000000000) :
    Calls Tryz.prog 71 #[.slice A l.length c1, .slice B l.length c2] w fun e w' => e = .returned (.bool true) ∧ Upd w w' [] := by
  have HA := hid hA
  have HB := hid hB
  clear hA hB
  go_enter Tryz.func71, Tryz.ntmps71
  go_wp2
  go_loopw [5] (fun t wr => eqRel l.length w t wr) (fun t _ => l.length - (intOf t).toNat)
  case atStart => exact ⟨0, rfl, Nat.zero_le _, hid (Upd.refl _ _)⟩
  case round =>
    obtain ⟨k, rfl, hk, HU⟩ := hrel
    by_cases hlt : k < l.length
    · have hne : l ≠ [] := by rintro rfl; simp at hlt
      obtain ⟨b1, o1, rfl, hb1, hc1⟩ := HA.out hne
      obtain ⟨b2, o2, rfl, hb2, hc2⟩ := HB.out hne
      have hr1 : b1 < wr.heap.size := Nat.lt_of_lt_of_le hb1 HU.out.size
      have hr2 : b2 < wr.heap.size := Nat.lt_of_lt_of_le hb2 HU.out.size
      have x0 : wr.cell? ⟨b1, o1 + k, none⟩ = some (.string (bs l[k])) := by rw [HU.out.cells.1 _ _ hb1]; exact hc1 k hlt
      have y0 : wr.cell? ⟨b2, o2 + k, none⟩ = some (.string (bs l[k])) := by rw [HU.out.cells.1 _ _ hb2]; exact hc2 k hlt
      have HS := hid (show ∀ _ _ : Nat, True from fun _ _ => trivial)
      clear hc1 hc2 HA HB
      generalize l[k] = s at x0 y0
      have hss : ((bs s).toList == (bs s).toList) = true := by simp
      have k0 := cell_regrown x0
      have l0 := cell_regrown y0
      go_wp2
      refine wp_region_quiet_below (by kernel_rfl) (by kernel_rfl) ?_
      repeat (any_goals (first
        | go_big_quiet_step (exact HS.out _ _)
        | quiet_step (exact HS.out _ _)))
      refine wpQuiet_nil ?_
      intro _ hw'
      obtain ⟨⟨dq, osq⟩, hw''⟩ := hw'
      subst hw''
      have hV4 : Upd wr (grow (redrawn wr dq) osq) [] := Upd.of_below (below_regrown wr dq osq) []
      have hV5 := HU.out.trans hV4
      clear hV4
      revert hV5
      generalize grow (redrawn wr dq) osq = w4
      intro hV5
      go_wp2
      go_roundw
      case rel => exact ⟨k + 1, by go_num, by omega, hid hV5⟩
      case measure => simp [intOf]; omega
    · obtain rfl : k = l.length := by omega
      go_wp2
      go_ret
      exact ⟨rfl, HU.out⟩

set_option maxHeartbeats 4000000 in
set_option maxRecDepth 100000 in
theorem sameMethod_any (nm ds : List UInt8) (fl lo st : Int) (A B : Option Addr) (c1 c2 : Nat) (code : List InstL) (w : World) (hA : InstsAt w A code) (hB : InstsAt w B code) (hl : code.length ≤ 2000000000000) :
    Calls Tryz.prog 72 #[(MethL.mk nm ds fl lo st A c1 code).v, (MethL.mk nm ds fl lo st B c2 code).v] w fun e w' => e = .returned (.bool true) ∧ Upd w w' [] := by
  have Hsc := hid (fun W (hU : Upd w W []) => hid (sameCode_any A B c1 c2 code W (hA.upd hU) (hB.upd hU) hl))
  have h1 : ((bs nm).toList == (bs nm).toList) = true := by simp
  have h2 : ((bs ds).toList == (bs ds).toList) = true := by simp
  have HU2 := hid (show Upd w ((w.alloc (.cells #[.string (bs nm), .string (bs ds), .int .i64 fl, .int .i64 lo, .int .i64 st, .slice A code.length c1] 34)).alloc (.cells #[.string (bs nm), .string (bs ds), .int .i64 fl, .int .i64 lo, .int .i64 st, .slice B code.length c2] 34)) [] from ((Upd.refl _ _).alloc _).alloc _)
  clear hA hB
  unfold MethL.v MethL.cells
  simp only
  go_enter Tryz.func72, Tryz.ntmps72
  go_wp2_with fail
  refine (Hsc.out _ HU2.out).out.mono ?_
  rintro e w3 ⟨rfl, hU3⟩
  have HU3 := hid (HU2.out.trans hU3)
  clear hU3 Hsc
  go_wp2
  go_ret
  exact ⟨rfl, HU3.out⟩

theorem rd_parts {c d : ClassL} (h : rdOf c = rdOf d) : c.nm = d.nm ∧ c.sup = d.sup ∧ c.ifs = d.ifs ∧ c.fl = d.fl ∧ c.ld = d.ld ∧ c.ms.map methSOf = d.ms.map methSOf := by
  unfold rdOf at h
  injection h with h1 h2 h3 h4 h5 h6
  exact ⟨h1, h2, h3, h4, h5, h6⟩

set_option maxHeartbeats 8000000 in
set_option maxRecDepth 100000 in
theorem sameCls_any (c d : ClassL) (w : World) (hc : c.fit w) (hd : d.fit w) (h : rdOf c = rdOf d) :
    Calls Tryz.prog 26 #[c.v, d.v] w fun e w' => e = .returned (.bool true) ∧ Upd w w' [] := by
  obtain ⟨e1, e2, e3, e4, e5, e6⟩ := rd_parts h
  obtain ⟨nm, sup, AI, cI, ifs, fl, ld, AM, cM, ms⟩ := c
  obtain ⟨nm', sup', BI, dI, ifs', fl', ld', BM, dM, ms'⟩ := d
  simp only at e1 e2 e3 e4 e5 e6
  subst e1 e2 e3 e4 e5
  have hml : ms.length = ms'.length := by have := congrArg List.length e6; simpa using this
  have Hlm := hid hml
  have Hst := hid (fun W (hU : Upd w W []) => hid (sameTexts_any AI BI cI dI ifs W (hc.ifs.upd hU) (hd.ifs.upd hU) hc.lenI))
  have Hms : Hid (∀ k (h1 : k < ms.length) (h2 : k < ms'.length), methSOf ms[k] = methSOf ms'[k]) := hid (fun k h1 h2 => by
    have := congrArg (fun l : List MethS => l[k]?) e6
    simp only [List.getElem?_map, List.getElem?_eq_getElem h1, List.getElem?_eq_getElem h2] at this
    exact Option.some.inj this)
  have HMA := hid hc.ms
  have HMB := hid hd.ms
  have Hfa := hid hc.meths
  have Hfb := hid hd.meths
  have hlM := hc.lenM
  simp only at hlM HMA HMB Hfa Hfb
  have h1 : ((bs nm).toList == (bs nm).toList) = true := by simp
  have h2 : ((bs sup).toList == (bs sup).toList) = true := by simp
  have hbx : Blk (w.alloc (.cells #[.string (bs nm), .string (bs sup), .slice AI ifs.length cI, .int .i64 fl, .int .i64 ld, .slice AM ms.length cM] 25)) w.heap.size 25 #[.string (bs nm), .string (bs sup), .slice AI ifs.length cI, .int .i64 fl, .int .i64 ld, .slice AM ms.length cM] := Blk.new _ _ _
  generalize hwa : w.alloc (.cells #[.string (bs nm), .string (bs sup), .slice AI ifs.length cI, .int .i64 fl, .int .i64 ld, .slice AM ms.length cM] 25) = wa at hbx
  have hUa : Upd w wa [] := by rw [← hwa]; exact (Upd.refl _ _).alloc _
  have hsa : wa.heap.size = w.heap.size + 1 := by rw [← hwa]; simp
  have Hwa := hid hwa
  clear hwa
  have HX := hid (hbx.alloc (.cells #[.string (bs nm), .string (bs sup), .slice BI ifs.length dI, .int .i64 fl, .int .i64 ld, .slice BM ms'.length dM] 25))
  have HY := hid (Blk.new_at (w := wa) (t := 25) (cs := #[.string (bs nm), .string (bs sup), .slice BI ifs.length dI, .int .i64 fl, .int .i64 ld, .slice BM ms'.length dM]) (g := w.heap.size + 1) (by omega))
  have HU2 := hid (hUa.alloc (.cells #[.string (bs nm), .string (bs sup), .slice BI ifs.length dI, .int .i64 fl, .int .i64 ld, .slice BM ms'.length dM] 25))
  rw [← Hwa.out] at HX HY HU2
  clear hbx hUa hsa Hwa hc hd h e6 hml
  unfold ClassL.v ClassL.cells
  simp only
  go_enter Tryz.func26, Tryz.ntmps26
  go_wp2_with fail
  refine (Hst.out _ HU2.out).out.mono ?_
  rintro e w3 ⟨rfl, hU3⟩
  have HX3 := hid (hU3.blk HX.out (by simp))
  have HY3 := hid (hU3.blk HY.out (by simp))
  have HU3 := hid (HU2.out.trans hU3)
  have c5 := (HX3.out.cell 5).trans (show _ = some (.slice AM ms.length cM) from rfl)
  have d5 := (HY3.out.cell 5).trans (show _ = some (.slice BM ms'.length dM) from rfl)
  have hltx := HX3.out.lt
  have hlty := HY3.out.lt
  clear hU3 Hst HX HY HU2 h1 h2
  rw [← Hlm.out] at d5
  go_wp2
  go_loopw [5] (fun t wr => eqRel ms.length w3 t wr) (fun t _ => ms.length - (intOf t).toNat)
  case atStart => exact ⟨0, rfl, Nat.zero_le _, hid (Upd.refl _ _)⟩
  case round =>
    obtain ⟨k, rfl, hk, HU⟩ := hrel
    have hcw := HU.out.cells.1
    have g5 : wr.cell? ⟨w.heap.size, 5, none⟩ = some (.slice AM ms.length cM) := by rw [hcw _ _ hltx]; exact c5
    have r5 : wr.cell? ⟨w.heap.size + 1, 5, none⟩ = some (.slice BM ms.length dM) := by rw [hcw _ _ hlty]; exact d5
    have hltx2 : w.heap.size < wr.heap.size := Nat.lt_of_lt_of_le hltx HU.out.size
    have hlty2 : w.heap.size + 1 < wr.heap.size := Nat.lt_of_lt_of_le hlty HU.out.size
    have HUw := hid (HU3.out.trans HU.out)
    clear hcw c5 d5
    by_cases hlt : k < ms.length
    · have hlt2 : k < ms'.length := by have := Hlm.out; omega
      obtain ⟨b1, o1, rfl, hb1, hc1⟩ := (HMA.out.upd HUw.out) (by rintro rfl; simp at hlt)
      obtain ⟨b2, o2, rfl, hb2, hc2⟩ := (HMB.out.upd HUw.out) (by rintro rfl; simp at hlt2)
      have hfa := (Hfa.out _ (List.getElem_mem hlt)).upd HUw.out
      have hfb := (Hfb.out _ (List.getElem_mem hlt2)).upd HUw.out
      have heq := Hms.out k hlt hlt2
      obtain ⟨mn, md, mf, ml, mt, MA, mc, code, ea⟩ : ∃ mn md mf ml mt MA mc code, ms[k] = MethL.mk mn md mf ml mt MA mc code := ⟨_, _, _, _, _, _, _, _, rfl⟩
      obtain ⟨nn, nd, nf, nl, nt, NA, nc, code2, eb⟩ : ∃ nn nd nf nl nt NA nc code2, ms'[k] = MethL.mk nn nd nf nl nt NA nc code2 := ⟨_, _, _, _, _, _, _, _, rfl⟩
      rw [ea, eb] at heq
      injection heq with q1 q2 q3 q4 q5 q6
      simp only at q1 q2 q3 q4 q5 q6
      subst q1 q2 q3 q4 q5 q6
      rw [ea] at hfa
      rw [eb] at hfb
      have Hsm := hid (fun W (hU : Upd wr W []) => hid (sameMethod_any mn md mf ml mt MA NA mc nc code W (hfa.at_.upd hU) (hfb.at_.upd hU) hfa.len))
      unfold MethL.v MethL.cells at Hsm
      simp only at Hsm
      obtain ⟨x0, x1, x2, x3, x4, x5⟩ := MethsAt.six hc1 hlt ea
      obtain ⟨y0, y1, y2, y3, y4, y5⟩ := MethsAt.six hc2 hlt2 eb
      have qs := fun d os => quiet_of (W := wr) (d := d) (os := os) fun W hW => (Hsm.out W hW).out
      have HS := hid qs
      clear qs hc1 hc2 hfa hfb ea eb Hsm HUw
      have k0 := cell_regrown (x0)
      have k1 := cell_regrown (x1)
      have k2 := cell_regrown (x2)
      have k3 := cell_regrown (x3)
      have k4 := cell_regrown (x4)
      have k5 := cell_regrown (x5)
      have l0 := cell_regrown (y0)
      have l1 := cell_regrown (y1)
      have l2 := cell_regrown (y2)
      have l3 := cell_regrown (y3)
      have l4 := cell_regrown (y4)
      have l5 := cell_regrown (y5)
      have kg := cell_regrown g5
      have kr := cell_regrown r5
      go_wp2
      refine wp_region_quiet_below (by kernel_rfl) (by kernel_rfl) ?_
      repeat (any_goals (first
        | go_big_quiet_step (exact HS.out _ _)
        | quiet_step (exact HS.out _ _)))
      refine wpQuiet_nil ?_
      intro _ hw'
      obtain ⟨⟨dq, osq⟩, hw''⟩ := hw'
      subst hw''
      have hV4 : Upd wr (grow (redrawn wr dq) osq) [] := Upd.of_below (below_regrown wr dq osq) []
      have hV5 := HU.out.trans hV4
      clear hV4
      revert hV5
      generalize grow (redrawn wr dq) osq = w4
      intro hV5
      go_wp2
      go_roundw
      case rel => exact ⟨k + 1, by go_num, by omega, hid hV5⟩
      case measure => simp [intOf]; omega
    · obtain rfl : k = ms.length := by omega
      go_wp2
      go_ret
      exact ⟨rfl, HUw.out⟩
end Go.Proofs.YtjjdlgjofjfgmaaGreatDoor
