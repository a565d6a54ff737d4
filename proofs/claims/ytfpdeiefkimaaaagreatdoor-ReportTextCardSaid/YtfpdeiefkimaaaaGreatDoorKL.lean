/-
  Package shapes' readings of a line, walked: named, number, flagsOf; package flags' ParseClass, ParseMethod.
-/
import Derived.Deep.RegionWith
import Derived.Laws.OwnMore
import Derived.Lib.QuietBelow
import Derived.OneCell
import Derived.Test.YtfpdeiefkimaaaaGreatDoorShelfB
import Derived.Test.YtfpdeiefkimaaaaGreatDoorKC
import Derived.Test.YtfpdeiefkimaaaaGreatDoorKG
import Derived.Test.YtfpdeiefkimaaaaGreatDoorKJ
set_option linter.unusedSimpArgs false
set_option linter.unusedVariables false
namespace Go.Proofs.YtfpdeiefkimaaaaGreatDoor
open Go.RowKit

theorem parseClass_any (l : List UInt8) (w : World) (hl : l.length ≤ 4000000000) :
    Calls Tryz.prog 190 #[.string (bs l)] w fun e w' => e = .returned (.tuple #[.int .i64 (parseF 1585 l).1, .int .i64 (parseF 1585 l).2]) ∧ Upd w w' [] := by
  have Hp := fun w => hid (flagsParse_any l 1585 w hl)
  generalize parseF 1585 l = p at Hp ⊢
  obtain ⟨a, b⟩ := p
  simp only at Hp ⊢
  go_enter Tryz.func190, Tryz.ntmps190
  go_wp2_with fail
  refine (Hp _).out.mono ?_
  rintro e w1 ⟨rfl, hU⟩
  go_wp2
  go_ret2
  exact ⟨rfl, hU⟩
theorem parseMethod_any (l : List UInt8) (w : World) (hl : l.length ≤ 4000000000) :
    Calls Tryz.prog 214 #[.string (bs l)] w fun e w' => e = .returned (.tuple #[.int .i64 (parseF 1055 l).1, .int .i64 (parseF 1055 l).2]) ∧ Upd w w' [] := by
  have Hp := fun w => hid (flagsParse_any l 1055 w hl)
  generalize parseF 1055 l = p at Hp ⊢
  obtain ⟨a, b⟩ := p
  simp only at Hp ⊢
  go_enter Tryz.func214, Tryz.ntmps214
  go_wp2_with fail
  refine (Hp _).out.mono ?_
  rintro e w1 ⟨rfl, hU⟩
  go_wp2
  go_ret2
  exact ⟨rfl, hU⟩

theorem cutPrefix_any (l p : List UInt8) (w : World) : Calls Tryz.prog 188 #[.string (bs l), .string (bs p)] w fun e w' => e = .returned (.tuple #[.string (bs (Lib.trimPrefix l p)), .bool (Lib.hasPrefix l p)]) ∧ w' = w := by
  have := Tryz.strings_CutPrefix (bs l) (bs p) w
  rw [bs_data, bs_data] at this
  exact this
theorem contains32_any (l : List UInt8) (w : World) : Calls Tryz.prog 189 #[.string (bs l), .string ⟨#[32]⟩] w fun e w' => e = .returned (.bool (decide (0 ≤ Lib.indexByte l 32))) ∧ w' = w := by
  have := Tryz.strings_Contains_one (bs l) 32 w
  rw [bs_data] at this
  exact this

set_option maxHeartbeats 2000000 in
theorem named5_any (line wd : List UInt8) (w : World) (hl : line.length ≤ 1000000000) (hwd : wd.length ≤ 100) :
    Calls Tryz.prog 154 #[.string (bs line), .string (bs wd)] w fun e w' => e = .returned (.tuple #[.string (bs (Lib.trimPrefix line (wd ++ [32]))), .bool (takenB wd line)]) ∧ Upd w w' [] := by
  have Hc := fun w => hid (cutPrefix_any line (wd ++ [32]) w)
  have hT : takenB wd line = (Lib.hasPrefix line (wd ++ [32]) && (decide (Lib.trimPrefix line (wd ++ [32]) ≠ []) && !decide (0 ≤ Lib.indexByte (Lib.trimPrefix line (wd ++ [32])) 32))) := rfl
  rw [hT]
  clear hT
  have hcat : (bs wd ++ (⟨#[32]⟩ : ByteArray)) = bs (wd ++ [32]) := by rw [show (⟨#[32]⟩ : ByteArray) = bs [32] from rfl, bs_append]
  generalize Lib.hasPrefix line (wd ++ [32]) = hp at Hc ⊢
  generalize Lib.trimPrefix line (wd ++ [32]) = s at Hc ⊢
  have Hx := fun w => hid (contains32_any s w)
  generalize wd ++ [32] = wd2 at Hc hcat
  have hsz : (bs wd).size ≤ 100 := by rw [bs_size]; exact hwd
  cases hp with
  | false =>
    go_enter Tryz.func154, Tryz.ntmps154
    go_wp2_with fail
    refine (Hc _).out.mono ?_
    rintro e w1 ⟨rfl, rfl⟩
    go_wp2
    go_ret2
    exact ⟨rfl, Upd.refl _ _⟩
  | true =>
    by_cases hs : s = []
    · rw [decide_eq_false (by simp [hs])]
      have hbb : ((bs s).toList != []) = false := by rw [bs_toList, hs]; rfl
      have hbe : (bs s).toList.isEmpty = true := by rw [bs_toList, hs]; rfl
      clear hs
      go_enter Tryz.func154, Tryz.ntmps154
      go_wp2_with fail
      refine (Hc _).out.mono ?_
      rintro e w1 ⟨rfl, rfl⟩
      go_wp2
      go_ret2
      exact ⟨rfl, Upd.refl _ _⟩
    · rw [decide_eq_true hs]
      have hbb : ((bs s).toList != []) = true := by rw [bs_toList, bne_iff_ne]; exact hs
      have hbe : (bs s).toList.isEmpty = false := by rw [bs_toList]; cases s with
          | nil => exact absurd rfl hs
          | cons x t => rfl
      have hbn : ¬ (bs s).toList = [] := by rw [bs_toList]; exact hs
      clear hs
      generalize decide (0 ≤ Lib.indexByte s 32) = ib at Hx ⊢
      go_enter Tryz.func154, Tryz.ntmps154
      go_wp2_with fail
      refine (Hc _).out.mono ?_
      rintro e w1 ⟨rfl, rfl⟩
      go_wp2_with fail
      refine (Hx _).out.mono ?_
      rintro e w2 ⟨rfl, rfl⟩
      go_wp2
      go_ret2
      exact ⟨rfl, Upd.refl _ _⟩

/-- A line of flags. -/
theorem clsFlags_law (line : List UInt8) : clsFlagsP (splitL 32 line) = if line = wFlags then some 0 else if Lib.hasPrefix line (wFlags ++ [32]) && (decide (Lib.trimPrefix line (wFlags ++ [32]) ≠ []) && decide ((parseF 1585 (Lib.trimPrefix line (wFlags ++ [32]))).2 = 0)) then some (parseF 1585 (Lib.trimPrefix line (wFlags ++ [32]))).1 else none := by
  by_cases h1 : line = wFlags
  · rw [if_pos h1, h1]
    decide
  · rw [if_neg h1]
    by_cases hp : Lib.hasPrefix line (wFlags ++ [32]) = true
    · obtain ⟨t, rfl⟩ := (prefix_iff wFlags line).1 hp
      rw [hp, trim_at, split_head wFlags t (by decide)]
      show (if wFlags = wFlags then flagsP 1585 (splitL 32 t) else none) = _
      rw [if_pos rfl]
      unfold flagsP
      rw [if_neg (splitL_ne 32 t), join_split]
      by_cases ht : t = []
      · rw [if_pos ht]; simp [ht]
      · rw [if_neg ht]
        by_cases h3 : (parseF 1585 t).2 = 0
        · rw [if_pos h3]; simp [ht, h3]
        · rw [if_neg h3]; simp [h3]
    · rw [Bool.not_eq_true] at hp
      rw [hp]
      simp only [Bool.false_and, Bool.false_eq_true, if_false]
      cases hs : splitL 32 line with
      | nil => rfl
      | cons a ps =>
        show (if a = wFlags then flagsP 1585 ps else none) = none
        rw [if_neg]
        rintro rfl
        by_cases hps : ps = []
        · subst hps
          exact h1 (splitL_single hs)
        · have := (prefix_iff wFlags line).2 ⟨_, splitL_inv hs hps⟩
          rw [hp] at this
          cases this

set_option maxHeartbeats 2000000 in
theorem flagsOf5_any (line : List UInt8) (w : World) (hl : line.length ≤ 1000000000) :
    Calls Tryz.prog 155 #[.string (bs line)] w fun e w' => (∃ f, e = .returned (.tuple #[.int .i64 f, .bool (clsFlagsP (splitL 32 line)).isSome]) ∧ ∀ n, clsFlagsP (splitL 32 line) = some n → f = n) ∧ Upd w w' [] := by
  have hL := clsFlags_law line
  have Hc := fun w => hid (cutPrefix_any line (wFlags ++ [32]) w)
  have hle : (Lib.trimPrefix line (wFlags ++ [32])).length ≤ line.length := by
    unfold Lib.trimPrefix
    split
    · rw [List.length_drop]; omega
    · exact Nat.le_refl _
  have Hp := fun w => hid (parseClass_any (Lib.trimPrefix line (wFlags ++ [32])) w (by omega))
  have HL := hid hL
  clear hL
  generalize clsFlagsP (splitL 32 line) = O at HL ⊢
  have hkey := bs_beq line wFlags
  by_cases h1 : line = wFlags
  · have hO := hid (HL.out.trans (if_pos h1))
    rw [decide_eq_true h1] at hkey
    have hk2 : ((bs line).toList == [102, 108, 97, 103, 115]) = true := by rw [bs_toList wFlags] at hkey; exact hkey
    clear h1 HL hkey Hc Hp hle
    go_enter Tryz.func155, Tryz.ntmps155
    go_wp2
    go_ret2
    rw [hO.out]
    exact ⟨⟨0, rfl, fun n h => by cases h; rfl⟩, Upd.refl _ _⟩
  · have HL2 := hid (HL.out.trans (if_neg h1))
    rw [decide_eq_false h1] at hkey
    have hk2 : ((bs line).toList == [102, 108, 97, 103, 115]) = false := by rw [bs_toList wFlags] at hkey; exact hkey
    have hk3 : ¬ (bs line).toList = [102, 108, 97, 103, 115] := by rw [beq_eq_false_iff_ne] at hk2; exact hk2
    clear h1 HL hkey hle
    generalize Lib.hasPrefix line (wFlags ++ [32]) = hp at Hc HL2
    generalize Lib.trimPrefix line (wFlags ++ [32]) = s at Hc Hp HL2
    obtain ⟨p, hpp⟩ : ∃ x, parseF 1585 s = x := ⟨_, rfl⟩
    rw [hpp] at Hp HL2
    obtain ⟨pf, pe⟩ := p
    simp only at Hp HL2
    have hw : (⟨#[102, 108, 97, 103, 115, 32]⟩ : ByteArray) = bs (wFlags ++ [32]) := rfl
    clear hpp
    have hfin : ∀ b : Bool, Hid (b = (hp && (decide (s ≠ []) && decide (pe = 0)))) → (O.isSome = b ∧ ∀ n, O = some n → pf = n) := fun b hb => by
      rw [HL2.out, ← hb.out]
      cases b with
      | true => exact ⟨rfl, fun n h => by rw [if_pos rfl] at h; exact Option.some.inj h⟩
      | false => exact ⟨rfl, fun n h => by rw [if_neg (by decide)] at h; cases h⟩
    have HFin := hid hfin
    clear hfin HL2
    go_enter Tryz.func155, Tryz.ntmps155
    go_wp2_with fail
    refine (Hc _).out.mono ?_
    rintro e w1 ⟨rfl, rfl⟩
    go_wp2_with fail
    refine (Hp _).out.mono ?_
    rintro e w2 ⟨rfl, hU⟩
    cases hp with
    | false =>
      go_wp2
      go_ret2
      obtain ⟨h1, h2⟩ := HFin.out false (hid (by simp))
      rw [h1]
      exact ⟨⟨pf, rfl, h2⟩, hU⟩
    | true =>
      by_cases hs : s = []
      · have HS := hid (show decide (s ≠ []) = false from decide_eq_false (by simp [hs]))
        have hbb : ((bs s).toList != []) = false := by rw [bs_toList, hs]; rfl
        have hbe : (bs s).toList.isEmpty = true := by rw [bs_toList, hs]; rfl
        have hbn : (bs s).toList = [] := by rw [bs_toList, hs]
        clear hs
        go_wp2
        go_ret2
        obtain ⟨h1, h2⟩ := HFin.out false (hid (by rw [HS.out]; simp))
        rw [h1]
        exact ⟨⟨pf, by first | rfl | simp [hbe], h2⟩, hU⟩
      · have HS := hid (show decide (s ≠ []) = true from decide_eq_true hs)
        have hbb : ((bs s).toList != []) = true := by rw [bs_toList, bne_iff_ne]; exact hs
        have hbe : (bs s).toList.isEmpty = false := by rw [bs_toList]; cases s with
          | nil => exact absurd rfl hs
          | cons x t => rfl
        have hbn : ¬ (bs s).toList = [] := by rw [bs_toList]; exact hs
        clear hs
        go_wp2
        go_ret2
        obtain ⟨h1, h2⟩ := HFin.out (decide (pe = 0)) (hid (by rw [HS.out]; simp))
        rw [h1]
        exact ⟨⟨pf, by first | rfl | simp [hbe], h2⟩, hU⟩
end Go.Proofs.YtfpdeiefkimaaaaGreatDoor
/-
  Package shapes' number, walked.
-/
set_option linter.unusedSimpArgs false
set_option linter.unusedVariables false
namespace Go.Proofs.YtfpdeiefkimaaaaGreatDoor
open Go.RowKit

def atoiOk (l : List UInt8) : Bool := match Lib.atoiAll l with
  | .ok _ => true
  | _ => false
theorem atoiOk_iff (l : List UInt8) : atoiOk l = true ↔ ∃ n, Lib.atoiAll l = .ok n := by
  unfold atoiOk
  cases h : Lib.atoiAll l <;> simp

theorem atoiE_any (l : List UInt8) (w : World) (hl : l.length ≤ 281474976710656) (he : ErrsAt w) :
    Calls Tryz.prog 212 #[.string (bs l)] w fun e w' => (∃ ev, e = .returned (.tuple #[.int .i64 (atoiV l), ev]) ∧ ((atoiOk l = true ∧ ev = .nilIface) ∨ (atoiOk l = false ∧ ∃ te pe, ev = .iface te pe))) ∧ Upd w w' [] := by
  obtain ⟨⟨ra, ha, ha2⟩, ⟨rb, hb, hb2⟩⟩ := he
  have hs : (bs l).size ≤ 281474976710656 := by rw [bs_size]; exact hl
  unfold atoiV atoiOk
  cases h : Lib.atoiAll l with
  | ok v =>
    refine (Tryz.strconv_Atoi_ok (bs l) (by omega) v (by rw [bs_data]; exact h) w).mono ?_
    rintro e w' ⟨rfl, hw⟩
    refine ⟨⟨_, rfl, .inl ⟨rfl, rfl⟩⟩, ?_⟩
    rcases hw with rfl | ⟨t, rfl⟩
    · exact Upd.refl _ _
    · exact bytesWorld_upd w _ t
  | range =>
    refine (Tryz.strconv_Atoi_range (bs l) hs (by rw [bs_data]; exact h) ra w ha ha2).mono ?_
    rintro e w' ⟨N, rfl, -, -, hB⟩
    rw [bs_data]
    exact ⟨⟨_, rfl, .inr ⟨rfl, _, _, rfl⟩⟩, Upd.of_below hB []⟩
  | _ =>
    refine (Any.strconv_Atoi_syntax Tryz.laysC172 (bs l) hs (by rw [bs_data]; exact h) rb w hb hb2).mono ?_
    rintro e w' ⟨N, rfl, -, -, hB⟩
    exact ⟨⟨_, rfl, .inr ⟨rfl, _, _, rfl⟩⟩, Upd.of_below hB []⟩

set_option maxHeartbeats 2000000 in
theorem number5_any (s : List UInt8) (w : World) (hl : s.length ≤ 1000000000) (hm : Rdy w) (he : ErrsAt w) :
    Calls Tryz.prog 191 #[.string (bs s)] w fun e w' => (∃ n, e = .returned (.tuple #[.int .i64 n, .bool (numL s).isSome]) ∧ ∀ m, numL s = some m → n = m) ∧ Upd w w' [] := by
  have hL := number_law s (atoiOk s) (atoiOk_iff s)
  have Ha := fun w he => hid (atoiE_any s w (by omega) he)
  obtain ⟨hb0, hb1⟩ := atoiV_bd s
  have Hi := fun w ht => hid (itoa_any (atoiV s) w hb0 hb1 ht)
  have hfin : ∀ b : Bool, Hid (b = numB s (atoiV s) (atoiOk s)) → ((numL s).isSome = b ∧ ∀ m, numL s = some m → atoiV s = m) := fun b hb => by
    rw [hL, ← hb.out]
    cases b with
    | true => exact ⟨rfl, fun n h => by rw [if_pos rfl] at h; exact Option.some.inj h⟩
    | false => exact ⟨rfl, fun n h => by rw [if_neg (by decide)] at h; cases h⟩
  have HFin := hid hfin
  have hnb : numB s (atoiV s) (atoiOk s) = (atoiOk s && (decide (s.length ≤ 9) && (decide (0 ≤ atoiV s) && decide (Lib.itoa (atoiV s) = s)))) := rfl
  rw [hnb] at HFin
  have hsz : (bs s).size = s.length := bs_size s
  have HM := hid hm
  have HE := hid he
  have hkey := bs_beq (Lib.itoa (atoiV s)) s
  clear hL hfin hnb hb0 hb1 hm he
  generalize Lib.itoa (atoiV s) = tt at *
  generalize atoiV s = n at *
  generalize atoiOk s = ok at *
  generalize numL s = O at *
  cases ok with
  | false =>
    go_enter Tryz.func191, Tryz.ntmps191
    go_wp2_with fail
    refine (Ha _ HE.out).out.mono ?_
    rintro e w1 ⟨⟨ev, rfl, (⟨h, -⟩ | ⟨-, te, pe, rfl⟩)⟩, hU⟩
    · cases h
    go_wp2
    go_ret2
    obtain ⟨h1, h2⟩ := HFin.out false (hid (by simp))
    rw [h1]
    exact ⟨⟨n, rfl, h2⟩, hU⟩
  | true =>
    by_cases h9 : s.length ≤ 9
    · by_cases h0 : 0 ≤ n
      · have HFin2 : Hid (O.isSome = decide (tt = s) ∧ ∀ m, O = some m → n = m) := hid (HFin.out (decide (tt = s)) (hid (by rw [decide_eq_true h9, decide_eq_true h0]; simp)))
        have h9i : decide ((s.length : Int) ≤ 9) = true := decide_eq_true (by omega)
        have h9j : (s.length : Int) ≤ 9 := by omega
        clear h9 HFin
        go_enter Tryz.func191, Tryz.ntmps191
        go_wp2_with fail
        refine (Ha _ HE.out).out.mono ?_
        rintro e w1 ⟨⟨ev, rfl, hev⟩, hU⟩
        obtain rfl : ev = .nilIface := by rcases hev with ⟨-, h⟩ | ⟨h, -⟩; exact h; cases h
        clear hev
        have HU1 := hid hU
        clear hU
        go_wp2_with fail
        refine (Hi _ (HM.out.upd HU1.out).tab).out.mono ?_
        rintro e w2 ⟨rfl, hU⟩
        go_wp2
        go_ret2
        obtain ⟨h1, h2⟩ := HFin2.out
        rw [h1]
        exact ⟨⟨n, by first | rfl | simp [hkey], h2⟩, HU1.out.trans hU⟩
      · have HFin2 : Hid (O.isSome = false ∧ ∀ m, O = some m → n = m) := hid (HFin.out false (hid (by rw [decide_eq_false h0]; simp)))
        have h9j : (s.length : Int) ≤ 9 := by omega
        have h0i : decide (0 ≤ n) = false := decide_eq_false h0
        clear h9 HFin
        go_enter Tryz.func191, Tryz.ntmps191
        go_wp2_with fail
        refine (Ha _ HE.out).out.mono ?_
        rintro e w1 ⟨⟨ev, rfl, hev⟩, hU⟩
        obtain rfl : ev = .nilIface := by rcases hev with ⟨-, h⟩ | ⟨h, -⟩; exact h; cases h
        clear hev
        go_wp2
        go_ret2
        obtain ⟨h1, h2⟩ := HFin2.out
        rw [h1]
        exact ⟨⟨n, rfl, h2⟩, hU⟩
    · have HFin2 : Hid (O.isSome = false ∧ ∀ m, O = some m → n = m) := hid (HFin.out false (hid (by rw [decide_eq_false h9]; simp)))
      have h9j : ¬ (s.length : Int) ≤ 9 := by omega
      have h9i : decide ((s.length : Int) ≤ 9) = false := decide_eq_false h9j
      clear h9 HFin
      go_enter Tryz.func191, Tryz.ntmps191
      go_wp2_with fail
      refine (Ha _ HE.out).out.mono ?_
      rintro e w1 ⟨⟨ev, rfl, hev⟩, hU⟩
      obtain rfl : ev = .nilIface := by rcases hev with ⟨-, h⟩ | ⟨h, -⟩; exact h; cases h
      clear hev
      go_wp2
      go_ret2
      obtain ⟨h1, h2⟩ := HFin2.out
      rw [h1]
      exact ⟨⟨n, rfl, h2⟩, hU⟩
end Go.Proofs.YtfpdeiefkimaaaaGreatDoor
/-
  What a reader of lines keeps in memory: lists of its own.
-/
set_option linter.unusedSimpArgs false
set_option linter.unusedVariables false
namespace Go.Proofs.YtfpdeiefkimaaaaGreatDoor
open Go.RowKit

def methRow (m : MethS) (c : Value) : List Value := [.string (bs m.nm), .string (bs m.ds), .int .i64 m.fl, .int .i64 m.lo, .int .i64 m.st, c]
def methRows : List MethS → List Value → List Value
  | m :: ms, c :: cs => methRow m c ++ methRows ms cs
  | _, _ => []
theorem methRows_length : ∀ {ms : List MethS} {cs : List Value}, ms.length = cs.length → (methRows ms cs).length = ms.length * 6
  | [], [], _ => rfl
  | m :: ms, c :: cs, h => by
    have ih := methRows_length (ms := ms) (cs := cs) (by simpa using h)
    show (methRow m c ++ methRows ms cs).length = _
    rw [List.length_append, ih, List.length_cons]
    show 6 + _ = _
    omega
  | [], c :: cs, h => by simp at h
  | m :: ms, [], h => by simp at h
theorem methRows_snoc : ∀ {ms : List MethS} {cs : List Value} (m : MethS) (c : Value), ms.length = cs.length → methRows (ms ++ [m]) (cs ++ [c]) = methRows ms cs ++ methRow m c
  | [], [], m, c, _ => by simp [methRows]
  | x :: ms, y :: cs, m, c, h => by
    have ih := methRows_snoc (ms := ms) (cs := cs) m c (by simpa using h)
    show methRow x y ++ methRows (ms ++ [m]) (cs ++ [c]) = methRow x y ++ methRows ms cs ++ methRow m c
    rw [ih, List.append_assoc]
  | [], c :: cs, _, _, h => by simp at h
  | m :: ms, [], _, _, h => by simp at h
theorem methRows_get : ∀ {ms : List MethS} {cs : List Value} (i : Nat) (h : i < ms.length) (h' : i < cs.length) (j : Nat), j < 6 → (methRows ms cs)[i * 6 + j]? = (methRow ms[i] cs[i])[j]?
  | m :: ms, c :: cs, 0, _, _, j, hj => by
    show (methRow m c ++ methRows ms cs)[0 * 6 + j]? = _
    rw [List.getElem?_append_left (by show 0 * 6 + j < 6; omega)]
    simp
  | m :: ms, c :: cs, i + 1, h, h', j, hj => by
    show (methRow m c ++ methRows ms cs)[(i + 1) * 6 + j]? = _
    rw [List.getElem?_append_right (by show 6 ≤ (i + 1) * 6 + j; omega), show (i + 1) * 6 + j - (methRow m c).length = i * 6 + j by show (i + 1) * 6 + j - 6 = _; omega]
    exact methRows_get i (by simpa using h) (by simpa using h') j hj
  | [], _, i, h, _, _, _ => absurd h (by simp)
  | m :: ms, [], i, _, h, _, _ => absurd h (by simp)
theorem methRows_modify : ∀ {ms : List MethS} {cs : List Value} (i : Nat) (h : i < ms.length) (h' : i < cs.length) (f : MethS → MethS) (j : Nat) (u : Value), j < 6 → methRow (f ms[i]) cs[i] = (methRow ms[i] cs[i]).set j u → (methRows ms cs).set (i * 6 + j) u = methRows (ms.modify i f) cs
  | m :: ms, c :: cs, 0, _, _, f, j, u, hj, he => by
    show (methRow m c ++ methRows ms cs).set (0 * 6 + j) u = methRow (f m) c ++ methRows ms cs
    rw [List.set_append_left _ _ (by show 0 * 6 + j < 6; omega), Nat.zero_mul, Nat.zero_add]
    rw [show methRow (f m) c = (methRow m c).set j u from he]
  | m :: ms, c :: cs, i + 1, h, h', f, j, u, hj, he => by
    have ih := methRows_modify (ms := ms) (cs := cs) i (by simpa using h) (by simpa using h') f j u hj (by simpa using he)
    show (methRow m c ++ methRows ms cs).set ((i + 1) * 6 + j) u = methRow m c ++ methRows (ms.modify i f) cs
    rw [List.set_append_right _ _ (by show 6 ≤ (i + 1) * 6 + j; omega), show (i + 1) * 6 + j - (methRow m c).length = i * 6 + j by show (i + 1) * 6 + j - 6 = _; omega, ih]
  | [], _, i, h, _, _, _, _, _, _ => absurd h (by simp)
  | m :: ms, [], i, _, h, _, _, _, _, _ => absurd h (by simp)
theorem methRows_code : ∀ {ms : List MethS} {cs : List Value} (i : Nat) (h : i < ms.length) (h' : i < cs.length) (f : MethS → MethS) (c' : Value), (∀ m c, methRow (f m) c = methRow m c) → (methRows ms cs).set (i * 6 + 5) c' = methRows (ms.modify i f) (cs.set i c')
  | m :: ms, c :: cs, 0, _, _, f, c', hf => by
    show (methRow m c ++ methRows ms cs).set (0 * 6 + 5) c' = methRow (f m) c' ++ methRows ms cs
    rw [List.set_append_left _ _ (by show 0 * 6 + 5 < 6; omega), hf]
    rfl
  | m :: ms, c :: cs, i + 1, h, h', f, c', hf => by
    have ih := methRows_code (ms := ms) (cs := cs) i (by simpa using h) (by simpa using h') f c' hf
    show (methRow m c ++ methRows ms cs).set ((i + 1) * 6 + 5) c' = methRow m c ++ methRows (ms.modify i f) (cs.set i c')
    rw [List.set_append_right _ _ (by show 6 ≤ (i + 1) * 6 + 5; omega), show (i + 1) * 6 + 5 - (methRow m c).length = i * 6 + 5 by show (i + 1) * 6 + 5 - 6 = _; omega, ih]
  | [], _, i, h, _, _, _, _ => absurd h (by simp)
  | m :: ms, [], i, _, h, _, _, _ => absurd h (by simp)

def instV (l : List InstL) : List Value := l.flatMap fun i => i.cells.toList
theorem instV_snoc (l : List InstL) (i : InstL) : instV (l ++ [i]) = instV l ++ i.cells.toList := by simp [instV]
def codeOf (ms : List MethS) (i : Nat) : List InstL := (ms[i]?.map MethS.code).getD []

/-- The lists of what has been read, each a row of its own that lies at n0 or behind it. -/
structure Lists (w : World) (n0 : Nat) (r : RdS) (vi vm : Value) (cs : List Value) : Prop where
  len : r.ms.length = cs.length
  oi : w.ownsRow 0 9 1 vi r.ifs.length (r.ifs.map strV)
  om : w.ownsRow 0 86 6 vm r.ms.length (methRows r.ms cs)
  oc : ∀ i (h : i < cs.length), w.ownsRow 0 90 7 cs[i] (codeOf r.ms i).length (instV (codeOf r.ms i))
  bi : ∀ k, vi.ownBlock = some k → n0 ≤ k
  bm : ∀ k, vm.ownBlock = some k → n0 ≤ k
  bc : ∀ i (h : i < cs.length) k, cs[i].ownBlock = some k → n0 ≤ k
  dis : ∀ i j (hi : i < cs.length) (hj : j < cs.length), i ≠ j → ∀ k, cs[i].ownBlock = some k → cs[j].ownBlock ≠ some k
theorem Lists.start (w : World) (n0 : Nat) (r : RdS) (h1 : r.ifs = []) (h2 : r.ms = []) : Lists w n0 r (.slice none 0 0) (.slice none 0 0) [] := by
  refine ⟨by rw [h2]; rfl, ?_, ?_, ?_, ?_, ?_, ?_, ?_⟩
  · rw [h1]; exact World.ownsRow_nil _ _ _ _
  · rw [h2]; exact World.ownsRow_nil _ _ _ _
  · intro i h; simp at h
  · intro k h; simp [Value.ownBlock] at h
  · intro k h; simp [Value.ownBlock] at h
  · intro i h; simp at h
  · intro i j h; simp at h
theorem Lists.upd {w w' : World} {n0 : Nat} {r : RdS} {vi vm : Value} {cs : List Value} (h : Lists w n0 r vi vm cs) (u : Upd w w' []) : Lists w' n0 r vi vm cs :=
  ⟨h.len, u.own h.oi (by simp), u.own h.om (by simp), fun i hi => u.own (h.oc i hi) (by simp), h.bi, h.bm, h.bc, h.dis⟩
/-- A cell of a block of another type is written. -/
theorem Lists.far {w : World} {n0 : Nat} {r : RdS} {vi vm : Value} {cs : List Value} (h : Lists w n0 r vi vm cs) {b : Nat} {t : TypeId} {xs : Array Value} (hb : Blk w b t xs) (h1 : 9 ≠ t) (h2 : 86 ≠ t) (h3 : 90 ≠ t) (j : Nat) (u : Value) : Lists (w.setCell ⟨b, j, none⟩ u) n0 r vi vm cs :=
  ⟨h.len, ownsRow_setCell_other h.oi (own_blk_ne h.oi hb h1) u, ownsRow_setCell_other h.om (own_blk_ne h.om hb h2) u, fun i hi => ownsRow_setCell_other (h.oc i hi) (own_blk_ne (h.oc i hi) hb h3) u, h.bi, h.bm, h.bc, h.dis⟩
/-- What the lists say leans on the lists alone. -/
theorem Lists.same {w : World} {n0 : Nat} {r r' : RdS} {vi vm : Value} {cs : List Value} (h : Lists w n0 r vi vm cs) (h1 : r'.ifs = r.ifs) (h2 : r'.ms = r.ms) : Lists w n0 r' vi vm cs := by
  obtain ⟨a, b, c, d, e, f, g, k⟩ := h
  exact ⟨by rw [h2]; exact a, by rw [h1]; exact b, by rw [h2]; exact c, by rw [h2]; exact d, e, f, g, k⟩
/-- One interface more. -/
theorem Lists.iface {w w' : World} {n0 : Nat} {r : RdS} {vi vm : Value} {cs : List Value} (h : Lists w n0 r vi vm cs) (s : List UInt8) (v' : Value) (hn : n0 ≤ w.heap.size) (ho : w'.ownsRow 0 9 1 v' (r.ifs.length + 1) (r.ifs.map strV ++ [.string (bs s)])) (hg : w.grownBy w' vi.ownBlock) (ha : ∀ k, v'.ownBlock = some k → vi.ownBlock = some k ∨ k = w.heap.size) :
    Lists w' n0 { r with ifs := r.ifs ++ [s] } v' vm cs := by
  refine ⟨h.len, ?_, own_grown_own h.om hg h.oi (by decide), fun i hi => own_grown_own (h.oc i hi) hg h.oi (by decide), ?_, h.bm, h.bc, h.dis⟩
  · simpa [strV] using ho
  · intro k hk
    rcases ha k hk with h1 | h1
    · exact h.bi k h1
    · omega
/-- One method more. -/
theorem Lists.meth {w w' : World} {n0 : Nat} {r : RdS} {vi vm : Value} {cs : List Value} (h : Lists w n0 r vi vm cs) (m : MethS) (hm : m.code = []) (v' : Value) (hn : n0 ≤ w.heap.size) (ho : w'.ownsRow 0 86 6 v' (r.ms.length + 1) (methRows r.ms cs ++ methRow m (.slice none 0 0))) (hg : w.grownBy w' vm.ownBlock) (ha : ∀ k, v'.ownBlock = some k → vm.ownBlock = some k ∨ k = w.heap.size) :
    Lists w' n0 { r with ms := r.ms ++ [m] } vi v' (cs ++ [.slice none 0 0]) := by
  have hl := h.len
  have hcode : ∀ i, i < cs.length → codeOf (r.ms ++ [m]) i = codeOf r.ms i := fun i hi => by
    unfold codeOf
    rw [List.getElem?_append_left (by omega)]
  refine ⟨by simp [hl], own_grown_own h.oi hg h.om (by decide), ?_, ?_, h.bi, ?_, ?_, ?_⟩
  · show w'.ownsRow _ _ _ _ (r.ms ++ [m]).length (methRows (r.ms ++ [m]) (cs ++ [.slice none 0 0]))
    rw [methRows_snoc m _ hl, List.length_append]
    exact ho
  · intro i hi
    show w'.ownsRow 0 90 7 (cs ++ [.slice none 0 0])[i] (codeOf (r.ms ++ [m]) i).length (instV (codeOf (r.ms ++ [m]) i))
    by_cases hlt : i < cs.length
    · rw [List.getElem_append_left hlt, hcode i hlt]
      exact own_grown_own (h.oc i hlt) hg h.om (by decide)
    · have : i = cs.length := by simp at hi; omega
      subst this
      have hc0 : codeOf (r.ms ++ [m]) cs.length = [] := by
        unfold codeOf
        rw [← hl, List.getElem?_append_right (Nat.le_refl _)]
        simp [hm]
      rw [hc0]
      simp only [List.getElem_append_right (Nat.le_refl _), Nat.sub_self, List.getElem_cons_zero]
      exact World.ownsRow_nil _ _ _ _
  · intro k hk
    rcases ha k hk with h1 | h1
    · exact h.bm k h1
    · omega
  · intro i hi k hk
    by_cases hlt : i < cs.length
    · rw [List.getElem_append_left hlt] at hk
      exact h.bc i hlt k hk
    · rw [List.getElem_append_right (by omega)] at hk
      simp at hi
      have : i - cs.length = 0 := by omega
      simp [this, Value.ownBlock] at hk
  · intro i j hi hj hne k hk
    by_cases h1 : i < cs.length
    · rw [List.getElem_append_left h1] at hk
      by_cases h2 : j < cs.length
      · rw [List.getElem_append_left h2]
        exact h.dis i j h1 h2 hne k hk
      · rw [List.getElem_append_right (by omega)]
        simp at hj
        have : j - cs.length = 0 := by omega
        simp [this, Value.ownBlock]
    · rw [List.getElem_append_right (by omega)] at hk
      simp at hi
      have : i - cs.length = 0 := by omega
      simp [this, Value.ownBlock] at hk
/-- A number of a method is written. -/
theorem Lists.store {w : World} {n0 : Nat} {r : RdS} {vi : Value} {g cap : Nat} {cs : List Value} (h : Lists w n0 r vi (.slice (some ⟨g, 0, none⟩) r.ms.length cap) cs) (i : Nat) (hi : i < r.ms.length) (f : MethS → MethS) (j : Nat) (u : Value) (hj : j < 6) (hf : ∀ m, (f m).code = m.code) (he : ∀ m c, methRow (f m) c = (methRow m c).set j u) :
    Lists (w.setCell ⟨g, i * 6 + j, none⟩ u) n0 { r with ms := r.ms.modify i f } vi (.slice (some ⟨g, 0, none⟩) r.ms.length cap) cs := by
  have hl := h.len
  obtain ⟨h1, h2⟩ := h.om.stored (i * 6 + j) u
  have hcode : ∀ k, codeOf (r.ms.modify i f) k = codeOf r.ms k := fun k => by
    unfold codeOf
    rw [List.getElem?_modify]
    cases r.ms[k]? with
    | none => rfl
    | some m => by_cases hk : i = k <;> simp [hk, hf]
  have hgb : (Value.slice (some ⟨g, 0, none⟩) r.ms.length cap).ownBlock = some g := rfl
  refine ⟨by simp [hl], own_grown_own h.oi (by rw [hgb]; exact h2) h.om (by decide), ?_, fun k hk => ?_, h.bi, h.bm, h.bc, h.dis⟩
  · show World.ownsRow _ _ _ _ _ (r.ms.modify i f).length (methRows (r.ms.modify i f) cs)
    rw [List.length_modify, ← methRows_modify i hi (by omega) f j u hj (he _ _)]
    exact h1
  · show World.ownsRow _ _ _ _ _ (codeOf (r.ms.modify i f) k).length (instV (codeOf (r.ms.modify i f) k))
    rw [hcode k]
    exact own_grown_own (h.oc k hk) (by rw [hgb]; exact h2) h.om (by decide)
/-- One instruction more: the method's list has grown, then its new value is written. -/
theorem Lists.inst {w w' : World} {n0 : Nat} {r : RdS} {vi : Value} {g cap : Nat} {cs : List Value} (h : Lists w n0 r vi (.slice (some ⟨g, 0, none⟩) r.ms.length cap) cs) (i : Nat) (hi : i < cs.length) (x : InstL) (v' : Value) (hn : n0 ≤ w.heap.size) (ho : w'.ownsRow 0 90 7 v' ((codeOf r.ms i).length + 1) (instV (codeOf r.ms i) ++ x.cells.toList)) (hg : w.grownBy w' cs[i].ownBlock) (ha : ∀ k, v'.ownBlock = some k → cs[i].ownBlock = some k ∨ k = w.heap.size) :
    Lists (w'.setCell ⟨g, i * 6 + 5, none⟩ v') n0 { r with ms := r.ms.modify i fun m => { m with code := m.code ++ [x] } } vi (.slice (some ⟨g, 0, none⟩) r.ms.length cap) (cs.set i v') := by
  have hl := h.len
  have him : i < r.ms.length := by omega
  have hom := own_grown_own h.om hg (h.oc i hi) (by decide)
  obtain ⟨h1, h2⟩ := hom.stored (i * 6 + 5) v'
  have hgb : (Value.slice (some ⟨g, 0, none⟩) r.ms.length cap).ownBlock = some g := rfl
  have hcode : ∀ k, k ≠ i → codeOf (r.ms.modify i fun m => { m with code := m.code ++ [x] }) k = codeOf r.ms k := fun k hk => by
    unfold codeOf
    rw [List.getElem?_modify]
    have hk' : ¬ i = k := fun e => hk e.symm
    cases r.ms[k]? with
    | none => rfl
    | some m => simp [hk']
  have hcodei : codeOf (r.ms.modify i fun m => { m with code := m.code ++ [x] }) i = codeOf r.ms i ++ [x] := by
    unfold codeOf
    rw [List.getElem?_modify, List.getElem?_eq_getElem him]
    simp
  have hset : ∀ k (hk : k < (cs.set i v').length), k ≠ i → (cs.set i v')[k] = cs[k]'(by simpa using hk) := fun k hk hne => by
    rw [List.getElem_set, if_neg (by omega)]
  have hseti : ∀ (hk : i < (cs.set i v').length), (cs.set i v')[i] = v' := fun hk => by rw [List.getElem_set_self]
  refine ⟨by simp [hl], ?_, ?_, fun k hk => ?_, h.bi, h.bm, fun k hk q hq => ?_, fun a b haa hb hne q hq => ?_⟩
  · exact own_grown_own (own_grown_own h.oi hg (h.oc i hi) (by decide)) (by rw [hgb]; exact h2) hom (by decide)
  · show World.ownsRow _ _ _ _ _ (r.ms.modify i _).length (methRows (r.ms.modify i _) (cs.set i v'))
    rw [List.length_modify, ← methRows_code i him hi (fun m => { m with code := m.code ++ [x] }) v' (fun m c => rfl)]
    exact h1
  · show World.ownsRow _ _ _ _ _ (codeOf (r.ms.modify i _) k).length (instV (codeOf (r.ms.modify i _) k))
    by_cases hki : k = i
    · subst hki
      rw [hseti, hcodei, instV_snoc, List.length_append]
      exact own_grown_own ho (by rw [hgb]; exact h2) hom (by decide)
    · have hk' : k < cs.length := by simpa using hk
      rw [hset k hk hki, hcode k hki]
      refine own_grown_own ((h.oc k hk').kept hg ?_) (by rw [hgb]; exact h2) hom (by decide)
      cases hv : cs[k].ownBlock with
      | none => exact .inl rfl
      | some q => exact .inr (fun e => h.dis k i hk' hi hki q hv e.symm)
  · by_cases hki : k = i
    · subst hki
      rw [hseti] at hq
      rcases ha q hq with h3 | h3
      · exact h.bc k hi q h3
      · omega
    · rw [hset k hk hki] at hq
      exact h.bc k (by simpa using hk) q hq
  · by_cases hai : a = i
    · subst hai
      rw [hseti] at hq
      rw [hset b hb (fun e => hne e.symm)]
      have hb' : b < cs.length := by simpa using hb
      rcases ha q hq with h3 | h3
      · exact h.dis a b hi hb' hne q h3
      · intro h4
        have := (h.oc b hb').lt q h4
        omega
    · rw [hset a haa hai] at hq
      have ha' : a < cs.length := by simpa using haa
      by_cases hbi : b = i
      · subst hbi
        rw [hseti]
        intro h4
        rcases ha q h4 with h5 | h5
        · exact h.dis a b ha' hi hne q hq h5
        · have := (h.oc a ha').lt q hq
          omega
      · rw [hset b hb hbi]
        exact h.dis a b ha' (by simpa using hb) hne q hq

def rdCells (r : RdS) (vi vm : Value) : Array Value := #[.string (bs r.nm), .string (bs r.sup), vi, .int .i64 r.fl, .int .i64 r.ld, vm, .int .i64 (r.st : Int)]
/-- A reader at b, all of it newer than w0. -/
def RInv (w0 : World) (b : Nat) (r : RdS) (w : World) : Prop :=
  ∃ vi vm cs, Blk w b 149 (rdCells r vi vm) ∧ Lists w w0.heap.size r vi vm cs ∧ w0.heap.size ≤ b ∧ Upd w0 w []
theorem RInv.upd {w0 : World} {b : Nat} {r : RdS} {w w' : World} (h : RInv w0 b r w) (u : Upd w w' []) : RInv w0 b r w' := by
  obtain ⟨vi, vm, cs, h1, h2, h3, h4⟩ := h
  exact ⟨vi, vm, cs, u.blk h1 (by simp), h2.upd u, h3, h4.trans u⟩
/-- A reader whatever it has read. -/
def RdBad (w : World) (b : Nat) : Prop := ∃ s0 s1 A1 n1 c1 f d A2 n2 c2 st, Blk w b 149 #[.string s0, .string s1, .slice A1 n1 c1, .int .i64 f, .int .i64 d, .slice A2 n2 c2, .int .i64 st]
theorem rdBad_of {w w' : World} {b n0 : Nat} {r r2 : RdS} {vi vm : Value} {cs : List Value} (hB : Blk w' b 149 (rdCells r vi vm)) (hL : Lists w n0 r2 vi vm cs) : RdBad w' b := by
  obtain ⟨A1, c1, rfl, -, -⟩ := own_slice hL.oi
  obtain ⟨A2, c2, rfl, -, -⟩ := own_slice hL.om
  exact ⟨_, _, _, _, _, _, _, _, _, _, _, hB⟩
/-- What a step of the reader answers. -/
def stepPost (w0 : World) (b : Nat) (o : Option RdS) (e : Ending) (w' : World) : Prop :=
  match o with
  | some r' => e = .returned (.bool true) ∧ RInv w0 b r' w'
  | none => e = .returned (.bool false) ∧ Upd w0 w' [] ∧ RdBad w' b
end Go.Proofs.YtfpdeiefkimaaaaGreatDoor
/-
  The reader of lines: its last method; the lines of one name. (Printed by gen_readB.py.)
-/
set_option linter.unusedSimpArgs false
set_option linter.unusedVariables false
namespace Go.Proofs.YtfpdeiefkimaaaaGreatDoor
open Go.RowKit

set_option maxHeartbeats 2000000 in
theorem last_any (b g n cap : Nat) (a0 a1 a2 a3 a4 a6 : Value) (w : World) (hb : Blk w b 149 #[a0, a1, a2, a3, a4, .slice (some ⟨g, 0, none⟩) n cap, a6]) (h1 : 1 ≤ n) (hn : n ≤ 1000000) :
    Calls Tryz.prog 192 #[.pointer (some ⟨b, 0, none⟩)] w fun e w' => e = .returned (.pointer (some ⟨g, (n - 1) * 6, none⟩)) ∧ ∃ k, w' = w.drewN k := by
  have c5 := hb.cell 5
  have hlt := hb.lt
  simp at c5
  have hw1 : wrap64 ((n : Int) - 1) = (n : Int) - 1 := by unfold wrap64; omega
  have hn1 : ((n : Int) - 1).toNat = n - 1 := by omega
  have hn2 : (0 : Int) ≤ (n : Int) - 1 := by omega
  have hn3 : (1 : Int) ≤ (n : Int) := by omega
  have hn4 : (n : Int) - 1 < (n : Int) := by omega
  go_enter Tryz.func192, Tryz.ntmps192
  go_wp2
  go_quiet (fail)
  go_wp2
  go_ret
  exact ⟨rfl, _, rfl⟩

theorem ne_sr : 9 ≠ 149 := by decide
theorem ne_mr : 86 ≠ 149 := by decide
theorem ne_ir : 90 ≠ 149 := by decide
/-- A field of the reader is written that is no list. -/
theorem RInv.store {w0 : World} {b : Nat} {r r' : RdS} {w : World} {vi vm : Value} {cs : List Value} (hB : Blk w b 149 (rdCells r vi vm)) (hL : Lists w w0.heap.size r vi vm cs) (j : Nat) (u : Value) (h1 : r'.ifs = r.ifs) (h2 : r'.ms = r.ms) (hc : (rdCells r vi vm).setIfInBounds j u = rdCells r' vi vm) :
    Blk (w.setCell ⟨b, j, none⟩ u) b 149 (rdCells r' vi vm) ∧ Lists (w.setCell ⟨b, j, none⟩ u) w0.heap.size r' vi vm cs :=
  ⟨by rw [← hc]; exact hB.set_ j u, (hL.far hB ne_sr ne_mr ne_ir j u).same h1 h2⟩

set_option maxHeartbeats 4000000 in
set_option maxRecDepth 100000 in
theorem line0_any (w0 : World) (b : Nat) (nm sup : List UInt8) (ifs : List (List UInt8)) (fl ld : Int) (ms : List MethS) (line : List UInt8) (w : World) (hI : RInv w0 b ⟨nm, sup, ifs, fl, ld, ms, 0⟩ w) (hl : line.length ≤ 40000) :
    Calls Tryz.prog 105 #[.pointer (some ⟨b, 0, none⟩), .string (bs line)] w (stepPost w0 b (stepL ⟨nm, sup, ifs, fl, ld, ms, 0⟩ line)) := by
  obtain ⟨vi, vm, cs, hB, hL, hb, hU⟩ := hI
  have hS : stepL ⟨nm, sup, ifs, fl, ld, ms, 0⟩ line = (namedP wClass (splitL 32 line)).map fun s => ⟨s, sup, ifs, fl, ld, ms, 1⟩ := rfl
  have hN := named_law wClass line (by decide)
  have Hnm := fun w => hid (named5_any line wClass w (by omega) (by decide))
  rw [hN] at hS
  rw [hS]
  clear hS hN
  have hwd : (⟨#[99, 108, 97, 115, 115]⟩ : ByteArray) = bs wClass := rfl
  have HB := hid hB
  have HL := hid hL
  have HU := hid hU
  have c6 := hB.cell 6
  have hlt := hB.lt
  simp [rdCells] at c6
  clear hB hL hU
  generalize takenB wClass line = tk at Hnm ⊢
  generalize Lib.trimPrefix line (wClass ++ [32]) = s at Hnm ⊢
  cases tk with
  | false =>
    go_enter Tryz.func105, Tryz.ntmps105
    go_wp2_with fail
    refine (Hnm _).out.mono ?_
    rintro e w1 ⟨rfl, hU1⟩
    have HB1 := hid (hU1.blk HB.out (by simp))
    have HL1 := hid (HL.out.upd hU1)
    have HU1 := hid (HU.out.trans hU1)
    have d0 := HB1.out.cell 0
    have d6 := HB1.out.cell 6
    have f0 := HB1.out.frozen 0
    have f6 := HB1.out.frozen 6
    have hlt1 := HB1.out.lt
    simp [rdCells] at d0 d6
    clear hU1 c6
    go_wp2
    go_ret
    have HU2 := hid ((HU1.out.setCell (p := ⟨b, 0, none⟩) (.inr hb) (.string (bs s))).setCell (p := ⟨b, 6, none⟩) (.inr hb) (.int .i64 1))
    exact ⟨rfl, HU2.out, rdBad_of (r := ⟨s, sup, ifs, fl, ld, ms, 1⟩) ((HB1.out.set_ 0 (.string (bs s))).set_ 6 (.int .i64 1)) HL1.out⟩
  | true =>
    go_enter Tryz.func105, Tryz.ntmps105
    go_wp2_with fail
    refine (Hnm _).out.mono ?_
    rintro e w1 ⟨rfl, hU1⟩
    have HB1 := hid (hU1.blk HB.out (by simp))
    have HL1 := hid (HL.out.upd hU1)
    have HU1 := hid (HU.out.trans hU1)
    have d0 := HB1.out.cell 0
    have d6 := HB1.out.cell 6
    have f0 := HB1.out.frozen 0
    have f6 := HB1.out.frozen 6
    have hlt1 := HB1.out.lt
    simp [rdCells] at d0 d6
    clear hU1 c6
    go_wp2
    go_ret
    have HU2 := hid ((HU1.out.setCell (p := ⟨b, 0, none⟩) (.inr hb) (.string (bs s))).setCell (p := ⟨b, 6, none⟩) (.inr hb) (.int .i64 1))
    obtain ⟨q1, q2⟩ := RInv.store (r' := ⟨s, sup, ifs, fl, ld, ms, 0⟩) HB1.out HL1.out 0 (.string (bs s)) rfl rfl rfl
    obtain ⟨q3, q4⟩ := RInv.store (r' := ⟨s, sup, ifs, fl, ld, ms, 1⟩) q1 q2 6 (.int .i64 1) rfl rfl rfl
    exact ⟨rfl, vi, vm, cs, q3, q4, hb, HU2.out⟩

set_option maxHeartbeats 4000000 in
set_option maxRecDepth 100000 in
theorem line1_any (w0 : World) (b : Nat) (nm sup : List UInt8) (ifs : List (List UInt8)) (fl ld : Int) (ms : List MethS) (line : List UInt8) (w : World) (hI : RInv w0 b ⟨nm, sup, ifs, fl, ld, ms, 1⟩ w) (hl : line.length ≤ 40000) :
    Calls Tryz.prog 105 #[.pointer (some ⟨b, 0, none⟩), .string (bs line)] w (stepPost w0 b (stepL ⟨nm, sup, ifs, fl, ld, ms, 1⟩ line)) := by
  obtain ⟨vi, vm, cs, hB, hL, hb, hU⟩ := hI
  have hS : stepL ⟨nm, sup, ifs, fl, ld, ms, 1⟩ line = (namedP wSuper (splitL 32 line)).map fun s => ⟨nm, s, ifs, fl, ld, ms, 2⟩ := rfl
  have hN := named_law wSuper line (by decide)
  have Hnm := fun w => hid (named5_any line wSuper w (by omega) (by decide))
  rw [hN] at hS
  rw [hS]
  clear hS hN
  have hwd : (⟨#[115, 117, 112, 101, 114]⟩ : ByteArray) = bs wSuper := rfl
  have HB := hid hB
  have HL := hid hL
  have HU := hid hU
  have c6 := hB.cell 6
  have hlt := hB.lt
  simp [rdCells] at c6
  clear hB hL hU
  generalize takenB wSuper line = tk at Hnm ⊢
  generalize Lib.trimPrefix line (wSuper ++ [32]) = s at Hnm ⊢
  cases tk with
  | false =>
    go_enter Tryz.func105, Tryz.ntmps105
    go_wp2_with fail
    refine (Hnm _).out.mono ?_
    rintro e w1 ⟨rfl, hU1⟩
    have HB1 := hid (hU1.blk HB.out (by simp))
    have HL1 := hid (HL.out.upd hU1)
    have HU1 := hid (HU.out.trans hU1)
    have d0 := HB1.out.cell 1
    have d6 := HB1.out.cell 6
    have f0 := HB1.out.frozen 1
    have f6 := HB1.out.frozen 6
    have hlt1 := HB1.out.lt
    simp [rdCells] at d0 d6
    clear hU1 c6
    go_wp2
    go_ret
    have HU2 := hid ((HU1.out.setCell (p := ⟨b, 1, none⟩) (.inr hb) (.string (bs s))).setCell (p := ⟨b, 6, none⟩) (.inr hb) (.int .i64 2))
    exact ⟨rfl, HU2.out, rdBad_of (r := ⟨nm, s, ifs, fl, ld, ms, 2⟩) ((HB1.out.set_ 1 (.string (bs s))).set_ 6 (.int .i64 2)) HL1.out⟩
  | true =>
    go_enter Tryz.func105, Tryz.ntmps105
    go_wp2_with fail
    refine (Hnm _).out.mono ?_
    rintro e w1 ⟨rfl, hU1⟩
    have HB1 := hid (hU1.blk HB.out (by simp))
    have HL1 := hid (HL.out.upd hU1)
    have HU1 := hid (HU.out.trans hU1)
    have d0 := HB1.out.cell 1
    have d6 := HB1.out.cell 6
    have f0 := HB1.out.frozen 1
    have f6 := HB1.out.frozen 6
    have hlt1 := HB1.out.lt
    simp [rdCells] at d0 d6
    clear hU1 c6
    go_wp2
    go_ret
    have HU2 := hid ((HU1.out.setCell (p := ⟨b, 1, none⟩) (.inr hb) (.string (bs s))).setCell (p := ⟨b, 6, none⟩) (.inr hb) (.int .i64 2))
    obtain ⟨q1, q2⟩ := RInv.store (r' := ⟨nm, s, ifs, fl, ld, ms, 1⟩) HB1.out HL1.out 1 (.string (bs s)) rfl rfl rfl
    obtain ⟨q3, q4⟩ := RInv.store (r' := ⟨nm, s, ifs, fl, ld, ms, 2⟩) q1 q2 6 (.int .i64 2) rfl rfl rfl
    exact ⟨rfl, vi, vm, cs, q3, q4, hb, HU2.out⟩
end Go.Proofs.YtfpdeiefkimaaaaGreatDoor
/-
  The reader of lines: the lines of one number. (Printed by gen_readC.py.)
-/
set_option linter.unusedSimpArgs false
set_option linter.unusedVariables false
namespace Go.Proofs.YtfpdeiefkimaaaaGreatDoor
open Go.RowKit

/-- A text cut at its first byte c. -/
def cutO (c : UInt8) (l : List UInt8) : List UInt8 × List UInt8 × Bool := match cutL c l with
  | some p => (p.1, p.2, true)
  | none => (l, [], false)
theorem cutO_le (c : UInt8) (l : List UInt8) : (cutO c l).1.length ≤ l.length ∧ (cutO c l).2.1.length ≤ l.length := by
  unfold cutO
  cases h : cutL c l with
  | none => simp
  | some p =>
    have := cutL_le c l h
    simp only
    omega
theorem cut1_any (c : UInt8) (l : List UInt8) (w : World) (hl : l.length < 4294967281) (hm : MaxLenAt w) : Calls Tryz.prog 104 #[.string (bs l), .string ⟨#[c]⟩] w fun e w' => e = .returned (.tuple #[.string (bs (cutO c l).1), .string (bs (cutO c l).2.1), .bool (cutO c l).2.2]) ∧ Upd w w' [] := by
  obtain ⟨m, hm⟩ := hm
  have := Tryz.strings_Cut (bs l) ⟨#[c]⟩ m w (by rw [bs_size]; exact hl) hm
  rw [bs_data, show ((⟨#[c]⟩ : ByteArray).data.toList) = [c] from rfl, cut_one] at this
  refine this.mono ?_
  rintro e w' ⟨rfl, n, rfl⟩
  exact ⟨rfl, (Upd.refl _ _).drewN n⟩
theorem numbered_law (wd line : List UInt8) (hw : (32 : UInt8) ∉ wd) : numberedP wd (splitL 32 line) = if (cutO 32 line).1 = wd then numL (cutO 32 line).2.1 else none := by
  unfold numberedP cutO
  by_cases h32 : (32 : UInt8) ∈ line
  · obtain ⟨a, t, rfl, ha⟩ := List.eq_append_cons_of_mem h32
    rw [cutL_cut 32 a t ha, splitL_cut 32 a t ha]
    simp only
    by_cases ht : (32 : UInt8) ∈ t
    · rw [numL_blank ht]
      have h2 := split_len ht
      match hs : splitL 32 t, h2 with
      | x :: y :: r, _ =>
        show (none : Option (List UInt8)).bind numL = _
        split <;> rfl
    · rw [splitL_none 32 t ht]
      show (if a = wd ∧ t ≠ [] then some t else none).bind numL = _
      by_cases h1 : a = wd
      · rw [if_pos h1]
        by_cases h2 : t = []
        · rw [if_neg (by simp [h2]), h2, numL_nil]
          rfl
        · rw [if_pos ⟨h1, h2⟩]
          rfl
      · rw [if_neg (fun h => h1 h.1), if_neg h1]
        rfl
  · rw [cutL_none 32 line h32, splitL_none 32 line h32]
    simp only
    rw [numL_nil]
    show (none : Option (List UInt8)).bind numL = _
    split <;> rfl

set_option maxHeartbeats 4000000 in
set_option maxRecDepth 100000 in
theorem counted3_any (w0 : World) (b : Nat) (nm sup : List UInt8) (ifs : List (List UInt8)) (fl ld : Int) (ms : List MethS) (line : List UInt8) (w : World) (hI : RInv w0 b ⟨nm, sup, ifs, fl, ld, ms, 3⟩ w) (hl : line.length ≤ 40000) (hm : Rdy w) (he : ErrsAt w) :
    Calls Tryz.prog 156 #[.pointer (some ⟨b, 0, none⟩), .string (bs line)] w (stepPost w0 b (stepL ⟨nm, sup, ifs, fl, ld, ms, 3⟩ line)) := by
  obtain ⟨vi, vm, cs, hB, hL, hb, hU⟩ := hI
  have hS : stepL ⟨nm, sup, ifs, fl, ld, ms, 3⟩ line = (numberedP wLoader (splitL 32 line)).map fun n => ⟨nm, sup, ifs, fl, n, ms, 4⟩ := rfl
  have hN := numbered_law wLoader line (by decide)
  have hle := cutO_le 32 line
  have Hct := fun w hm => hid (cut1_any 32 line w (by omega) hm)
  have Hnu := fun w hm he => hid (number5_any (cutO 32 line).2.1 w (by omega) hm he)
  rw [hN] at hS
  rw [hS]
  clear hS hN hle
  have HB := hid hB
  have HL := hid hL
  have HU := hid hU
  have HM := hid hm
  have HE := hid he
  have c6 := hB.cell 6
  have hlt := hB.lt
  simp [rdCells] at c6
  clear hB hL hU hm he
  generalize cutO 32 line = co at Hct Hnu ⊢
  obtain ⟨w1, s, fo⟩ := co
  simp only at Hct Hnu ⊢
  have hkey := bs_beq w1 wLoader
  rw [bs_toList wLoader] at hkey
  have hkey2 : ((bs w1).toList == [108, 111, 97, 100, 101, 114]) = decide (w1 = wLoader) := hkey
  generalize numL s = O at Hnu ⊢
  clear hkey
  by_cases hw : w1 = wLoader
  · rw [decide_eq_true hw] at hkey2
    rw [if_pos hw]
    clear hw
    cases O with
    | none =>
      go_enter Tryz.func156, Tryz.ntmps156
      go_wp2_with fail
      refine (Hct _ HM.out.max).out.mono ?_
      rintro e w1 ⟨rfl, hU1⟩
      have HB1 := hid (hU1.blk HB.out (by simp))
      have HL1 := hid (HL.out.upd hU1)
      have HU1 := hid (HU.out.trans hU1)
      have HM1 := hid (HM.out.upd hU1)
      have HE1 := hid (HE.out.upd hU1)
      clear hU1
      go_wp2_with fail
      refine (Hnu _ HM1.out HE1.out).out.mono ?_
      rintro e w2 ⟨⟨n, rfl, hn⟩, hU2⟩
      have HB2 := hid (hU2.blk HB1.out (by simp))
      have HL2 := hid (HL1.out.upd hU2)
      have HU2 := hid (HU1.out.trans hU2)
      have d6 := HB2.out.cell 6
      have f6 := HB2.out.frozen 6
      have hlt2 := HB2.out.lt
      simp [rdCells] at d6
      clear hU2
      have d4 := HB2.out.cell 4
      have f4 := HB2.out.frozen 4
      simp [rdCells] at d4
      go_wp2
      go_ret
      have HU3 := hid ((HU2.out.setCell (p := ⟨b, 4, none⟩) (.inr hb) (.int .i64 n)).setCell (p := ⟨b, 6, none⟩) (.inr hb) (.int .i64 4))
      exact ⟨rfl, HU3.out, rdBad_of (r := ⟨nm, sup, ifs, fl, n, ms, 4⟩) ((HB2.out.set_ 4 (.int .i64 n)).set_ 6 (.int .i64 4)) HL2.out⟩
    | some m =>
      go_enter Tryz.func156, Tryz.ntmps156
      go_wp2_with fail
      refine (Hct _ HM.out.max).out.mono ?_
      rintro e w1 ⟨rfl, hU1⟩
      have HB1 := hid (hU1.blk HB.out (by simp))
      have HL1 := hid (HL.out.upd hU1)
      have HU1 := hid (HU.out.trans hU1)
      have HM1 := hid (HM.out.upd hU1)
      have HE1 := hid (HE.out.upd hU1)
      clear hU1
      go_wp2_with fail
      refine (Hnu _ HM1.out HE1.out).out.mono ?_
      rintro e w2 ⟨⟨n, rfl, hn⟩, hU2⟩
      have HB2 := hid (hU2.blk HB1.out (by simp))
      have HL2 := hid (HL1.out.upd hU2)
      have HU2 := hid (HU1.out.trans hU2)
      have d6 := HB2.out.cell 6
      have f6 := HB2.out.frozen 6
      have hlt2 := HB2.out.lt
      simp [rdCells] at d6
      clear hU2
      have d4 := HB2.out.cell 4
      have f4 := HB2.out.frozen 4
      simp [rdCells] at d4
      go_wp2
      go_ret
      have HU3 := hid ((HU2.out.setCell (p := ⟨b, 4, none⟩) (.inr hb) (.int .i64 n)).setCell (p := ⟨b, 6, none⟩) (.inr hb) (.int .i64 4))
      obtain rfl : n = m := hn m rfl
      obtain ⟨q1, q2⟩ := RInv.store (r' := ⟨nm, sup, ifs, fl, n, ms, 3⟩) HB2.out HL2.out 4 (.int .i64 n) rfl rfl rfl
      obtain ⟨q3, q4⟩ := RInv.store (r' := ⟨nm, sup, ifs, fl, n, ms, 4⟩) q1 q2 6 (.int .i64 4) rfl rfl rfl
      exact ⟨rfl, vi, vm, cs, q3, q4, hb, HU3.out⟩
  · rw [decide_eq_false hw] at hkey2
    have hkn : ¬ (bs w1).toList = [108, 111, 97, 100, 101, 114] := by rw [beq_eq_false_iff_ne] at hkey2; exact hkey2
    rw [if_neg hw]
    clear hw
    go_enter Tryz.func156, Tryz.ntmps156
    go_wp2_with fail
    refine (Hct _ HM.out.max).out.mono ?_
    rintro e w1 ⟨rfl, hU1⟩
    have HB1 := hid (hU1.blk HB.out (by simp))
    have HL1 := hid (HL.out.upd hU1)
    have HU1 := hid (HU.out.trans hU1)
    have HM1 := hid (HM.out.upd hU1)
    have HE1 := hid (HE.out.upd hU1)
    clear hU1
    go_wp2_with fail
    refine (Hnu _ HM1.out HE1.out).out.mono ?_
    rintro e w2 ⟨⟨n, rfl, hn⟩, hU2⟩
    have HB2 := hid (hU2.blk HB1.out (by simp))
    have HL2 := hid (HL1.out.upd hU2)
    have HU2 := hid (HU1.out.trans hU2)
    have d6 := HB2.out.cell 6
    have f6 := HB2.out.frozen 6
    have hlt2 := HB2.out.lt
    simp [rdCells] at d6
    clear hU2
    go_wp2
    go_ret
    exact ⟨rfl, HU2.out, rdBad_of HB2.out HL2.out⟩

set_option maxHeartbeats 4000000 in
set_option maxRecDepth 100000 in
theorem counted5_any (w0 : World) (b : Nat) (nm sup : List UInt8) (ifs : List (List UInt8)) (fl ld : Int) (ms : List MethS) (line : List UInt8) (w : World) (hI : RInv w0 b ⟨nm, sup, ifs, fl, ld, ms, 5⟩ w) (hl : line.length ≤ 40000) (hm : Rdy w) (he : ErrsAt w) (hms : 1 ≤ ms.length) (hmn : ms.length ≤ 1000000) :
    Calls Tryz.prog 156 #[.pointer (some ⟨b, 0, none⟩), .string (bs line)] w (stepPost w0 b (stepL ⟨nm, sup, ifs, fl, ld, ms, 5⟩ line)) := by
  obtain ⟨vi, vm, cs, hB, hL, hb, hU⟩ := hI
  have hS : stepL ⟨nm, sup, ifs, fl, ld, ms, 5⟩ line = (numberedP wLocals (splitL 32 line)).map fun n => ⟨nm, sup, ifs, fl, ld, ms.modify (ms.length - 1) fun m => { m with lo := n }, 6⟩ := rfl
  have hN := numbered_law wLocals line (by decide)
  have hle := cutO_le 32 line
  have Hct := fun w hm => hid (cut1_any 32 line w (by omega) hm)
  have Hnu := fun w hm he => hid (number5_any (cutO 32 line).2.1 w (by omega) hm he)
  rw [hN] at hS
  rw [hS]
  clear hS hN hle
  have HB := hid hB
  have HL := hid hL
  have HU := hid hU
  have HM := hid hm
  have HE := hid he
  have c6 := hB.cell 6
  have hlt := hB.lt
  simp [rdCells] at c6
  clear hB hL hU hm he
  generalize cutO 32 line = co at Hct Hnu ⊢
  obtain ⟨w1, s, fo⟩ := co
  simp only at Hct Hnu ⊢
  have hkey := bs_beq w1 wLocals
  rw [bs_toList wLocals] at hkey
  have hkey2 : ((bs w1).toList == [108, 111, 99, 97, 108, 115]) = decide (w1 = wLocals) := hkey
  generalize numL s = O at Hnu ⊢
  clear hkey
  by_cases hw : w1 = wLocals
  · rw [decide_eq_true hw] at hkey2
    rw [if_pos hw]
    clear hw
    cases O with
    | none =>
      go_enter Tryz.func156, Tryz.ntmps156
      go_wp2_with fail
      refine (Hct _ HM.out.max).out.mono ?_
      rintro e w1 ⟨rfl, hU1⟩
      have HB1 := hid (hU1.blk HB.out (by simp))
      have HL1 := hid (HL.out.upd hU1)
      have HU1 := hid (HU.out.trans hU1)
      have HM1 := hid (HM.out.upd hU1)
      have HE1 := hid (HE.out.upd hU1)
      clear hU1
      go_wp2_with fail
      refine (Hnu _ HM1.out HE1.out).out.mono ?_
      rintro e w2 ⟨⟨n, rfl, hn⟩, hU2⟩
      have HB2 := hid (hU2.blk HB1.out (by simp))
      have HL2 := hid (HL1.out.upd hU2)
      have HU2 := hid (HU1.out.trans hU2)
      have d6 := HB2.out.cell 6
      have f6 := HB2.out.frozen 6
      have hlt2 := HB2.out.lt
      simp [rdCells] at d6
      clear hU2
      obtain ⟨g, cap, hvm, hcap1, hcap2, hgl⟩ := own_form HL2.out.om (by exact hms)
      subst hvm
      have Hla := fun w hB => hid (last_any b g ms.length cap (.string (bs nm)) (.string (bs sup)) vi (.int .i64 fl) (.int .i64 ld) (.int .i64 5) w hB hms hmn)
      have x3 := HL2.out.om.cellAt ((ms.length - 1) * 6 + 3) (by show (ms.length - 1) * 6 + 3 < ms.length * 6; omega)
      rw [methRows_get (ms.length - 1) (by show ms.length - 1 < ms.length; omega) (by have := HL2.out.len; simp only at this; omega) 3 (by omega)] at x3
      simp only [methRow] at x3
      have fx := HL2.out.om.frozenAt ((ms.length - 1) * 6 + 3)
      have hbg : ¬ b = g := fun h => own_blk_ne HL2.out.om HB2.out ne_mr (by rw [h]; rfl)
      have hgb : ¬ g = b := fun h => hbg h.symm
      have hbm : w0.heap.size ≤ g := HL2.out.bm g rfl
      go_wp2_with fail
      refine (Hla _ (by exact HB2.out)).out.mono ?_
      rintro e w3 ⟨rfl, kk, rfl⟩
      have HB3 := hid (show Blk (w2.drewN kk) b _ _ from HB2.out.drewN kk)
      have HL3 := hid (HL2.out.upd ((Upd.refl w2 []).drewN kk))
      have HU3 := hid (HU2.out.drewN kk)
      go_wp2
      go_ret
      have HU4 := hid ((HU3.out.setCell (p := ⟨g, (ms.length - 1) * 6 + 3, none⟩) (.inr hbm) (.int .i64 n)).setCell (p := ⟨b, 6, none⟩) (.inr hb) (.int .i64 6))
      exact ⟨rfl, HU4.out, rdBad_of (r := ⟨nm, sup, ifs, fl, ld, ms, 6⟩) ((HB3.out.far (p := ⟨g, (ms.length - 1) * 6 + 3, none⟩) hbg (.int .i64 n)).set_ 6 (.int .i64 6)) HL3.out⟩
    | some m =>
      go_enter Tryz.func156, Tryz.ntmps156
      go_wp2_with fail
      refine (Hct _ HM.out.max).out.mono ?_
      rintro e w1 ⟨rfl, hU1⟩
      have HB1 := hid (hU1.blk HB.out (by simp))
      have HL1 := hid (HL.out.upd hU1)
      have HU1 := hid (HU.out.trans hU1)
      have HM1 := hid (HM.out.upd hU1)
      have HE1 := hid (HE.out.upd hU1)
      clear hU1
      go_wp2_with fail
      refine (Hnu _ HM1.out HE1.out).out.mono ?_
      rintro e w2 ⟨⟨n, rfl, hn⟩, hU2⟩
      have HB2 := hid (hU2.blk HB1.out (by simp))
      have HL2 := hid (HL1.out.upd hU2)
      have HU2 := hid (HU1.out.trans hU2)
      have d6 := HB2.out.cell 6
      have f6 := HB2.out.frozen 6
      have hlt2 := HB2.out.lt
      simp [rdCells] at d6
      clear hU2
      obtain ⟨g, cap, hvm, hcap1, hcap2, hgl⟩ := own_form HL2.out.om (by exact hms)
      subst hvm
      have Hla := fun w hB => hid (last_any b g ms.length cap (.string (bs nm)) (.string (bs sup)) vi (.int .i64 fl) (.int .i64 ld) (.int .i64 5) w hB hms hmn)
      have x3 := HL2.out.om.cellAt ((ms.length - 1) * 6 + 3) (by show (ms.length - 1) * 6 + 3 < ms.length * 6; omega)
      rw [methRows_get (ms.length - 1) (by show ms.length - 1 < ms.length; omega) (by have := HL2.out.len; simp only at this; omega) 3 (by omega)] at x3
      simp only [methRow] at x3
      have fx := HL2.out.om.frozenAt ((ms.length - 1) * 6 + 3)
      have hbg : ¬ b = g := fun h => own_blk_ne HL2.out.om HB2.out ne_mr (by rw [h]; rfl)
      have hgb : ¬ g = b := fun h => hbg h.symm
      have hbm : w0.heap.size ≤ g := HL2.out.bm g rfl
      go_wp2_with fail
      refine (Hla _ (by exact HB2.out)).out.mono ?_
      rintro e w3 ⟨rfl, kk, rfl⟩
      have HB3 := hid (show Blk (w2.drewN kk) b _ _ from HB2.out.drewN kk)
      have HL3 := hid (HL2.out.upd ((Upd.refl w2 []).drewN kk))
      have HU3 := hid (HU2.out.drewN kk)
      go_wp2
      go_ret
      have HU4 := hid ((HU3.out.setCell (p := ⟨g, (ms.length - 1) * 6 + 3, none⟩) (.inr hbm) (.int .i64 n)).setCell (p := ⟨b, 6, none⟩) (.inr hb) (.int .i64 6))
      obtain rfl : n = m := hn m rfl
      have q1 := HL3.out.store (ms.length - 1) (by show ms.length - 1 < ms.length; omega) (fun m => { m with lo := n }) 3 (.int .i64 n) (by omega) (fun m => rfl) (fun m c => rfl)
      have q2 := HB3.out.far (p := ⟨g, (ms.length - 1) * 6 + 3, none⟩) hbg (.int .i64 n)
      have hlm : (ms.modify (ms.length - 1) fun m => { m with lo := n }).length = ms.length := List.length_modify ..
      obtain ⟨q3, q4⟩ := RInv.store (r := ⟨nm, sup, ifs, fl, ld, ms.modify (ms.length - 1) fun m => { m with lo := n }, 5⟩) (r' := ⟨nm, sup, ifs, fl, ld, ms.modify (ms.length - 1) fun m => { m with lo := n }, 6⟩) q2 q1 6 (.int .i64 6) rfl rfl rfl
      exact ⟨rfl, vi, _, cs, q3, q4, hb, HU4.out⟩
  · rw [decide_eq_false hw] at hkey2
    have hkn : ¬ (bs w1).toList = [108, 111, 99, 97, 108, 115] := by rw [beq_eq_false_iff_ne] at hkey2; exact hkey2
    rw [if_neg hw]
    clear hw
    go_enter Tryz.func156, Tryz.ntmps156
    go_wp2_with fail
    refine (Hct _ HM.out.max).out.mono ?_
    rintro e w1 ⟨rfl, hU1⟩
    have HB1 := hid (hU1.blk HB.out (by simp))
    have HL1 := hid (HL.out.upd hU1)
    have HU1 := hid (HU.out.trans hU1)
    have HM1 := hid (HM.out.upd hU1)
    have HE1 := hid (HE.out.upd hU1)
    clear hU1
    go_wp2_with fail
    refine (Hnu _ HM1.out HE1.out).out.mono ?_
    rintro e w2 ⟨⟨n, rfl, hn⟩, hU2⟩
    have HB2 := hid (hU2.blk HB1.out (by simp))
    have HL2 := hid (HL1.out.upd hU2)
    have HU2 := hid (HU1.out.trans hU2)
    have d6 := HB2.out.cell 6
    have f6 := HB2.out.frozen 6
    have hlt2 := HB2.out.lt
    simp [rdCells] at d6
    clear hU2
    go_wp2
    go_ret
    exact ⟨rfl, HU2.out, rdBad_of HB2.out HL2.out⟩

set_option maxHeartbeats 4000000 in
set_option maxRecDepth 100000 in
theorem counted6_any (w0 : World) (b : Nat) (nm sup : List UInt8) (ifs : List (List UInt8)) (fl ld : Int) (ms : List MethS) (line : List UInt8) (w : World) (hI : RInv w0 b ⟨nm, sup, ifs, fl, ld, ms, 6⟩ w) (hl : line.length ≤ 40000) (hm : Rdy w) (he : ErrsAt w) (hms : 1 ≤ ms.length) (hmn : ms.length ≤ 1000000) :
    Calls Tryz.prog 156 #[.pointer (some ⟨b, 0, none⟩), .string (bs line)] w (stepPost w0 b (stepL ⟨nm, sup, ifs, fl, ld, ms, 6⟩ line)) := by
  obtain ⟨vi, vm, cs, hB, hL, hb, hU⟩ := hI
  have hS : stepL ⟨nm, sup, ifs, fl, ld, ms, 6⟩ line = (numberedP wStack (splitL 32 line)).map fun n => ⟨nm, sup, ifs, fl, ld, ms.modify (ms.length - 1) fun m => { m with st := n }, 7⟩ := rfl
  have hN := numbered_law wStack line (by decide)
  have hle := cutO_le 32 line
  have Hct := fun w hm => hid (cut1_any 32 line w (by omega) hm)
  have Hnu := fun w hm he => hid (number5_any (cutO 32 line).2.1 w (by omega) hm he)
  rw [hN] at hS
  rw [hS]
  clear hS hN hle
  have HB := hid hB
  have HL := hid hL
  have HU := hid hU
  have HM := hid hm
  have HE := hid he
  have c6 := hB.cell 6
  have hlt := hB.lt
  simp [rdCells] at c6
  clear hB hL hU hm he
  generalize cutO 32 line = co at Hct Hnu ⊢
  obtain ⟨w1, s, fo⟩ := co
  simp only at Hct Hnu ⊢
  have hkey := bs_beq w1 wStack
  rw [bs_toList wStack] at hkey
  have hkey2 : ((bs w1).toList == [115, 116, 97, 99, 107]) = decide (w1 = wStack) := hkey
  generalize numL s = O at Hnu ⊢
  clear hkey
  by_cases hw : w1 = wStack
  · rw [decide_eq_true hw] at hkey2
    rw [if_pos hw]
    clear hw
    cases O with
    | none =>
      go_enter Tryz.func156, Tryz.ntmps156
      go_wp2_with fail
      refine (Hct _ HM.out.max).out.mono ?_
      rintro e w1 ⟨rfl, hU1⟩
      have HB1 := hid (hU1.blk HB.out (by simp))
      have HL1 := hid (HL.out.upd hU1)
      have HU1 := hid (HU.out.trans hU1)
      have HM1 := hid (HM.out.upd hU1)
      have HE1 := hid (HE.out.upd hU1)
      clear hU1
      go_wp2_with fail
      refine (Hnu _ HM1.out HE1.out).out.mono ?_
      rintro e w2 ⟨⟨n, rfl, hn⟩, hU2⟩
      have HB2 := hid (hU2.blk HB1.out (by simp))
      have HL2 := hid (HL1.out.upd hU2)
      have HU2 := hid (HU1.out.trans hU2)
      have d6 := HB2.out.cell 6
      have f6 := HB2.out.frozen 6
      have hlt2 := HB2.out.lt
      simp [rdCells] at d6
      clear hU2
      obtain ⟨g, cap, hvm, hcap1, hcap2, hgl⟩ := own_form HL2.out.om (by exact hms)
      subst hvm
      have Hla := fun w hB => hid (last_any b g ms.length cap (.string (bs nm)) (.string (bs sup)) vi (.int .i64 fl) (.int .i64 ld) (.int .i64 6) w hB hms hmn)
      have x3 := HL2.out.om.cellAt ((ms.length - 1) * 6 + 4) (by show (ms.length - 1) * 6 + 4 < ms.length * 6; omega)
      rw [methRows_get (ms.length - 1) (by show ms.length - 1 < ms.length; omega) (by have := HL2.out.len; simp only at this; omega) 4 (by omega)] at x3
      simp only [methRow] at x3
      have fx := HL2.out.om.frozenAt ((ms.length - 1) * 6 + 4)
      have hbg : ¬ b = g := fun h => own_blk_ne HL2.out.om HB2.out ne_mr (by rw [h]; rfl)
      have hgb : ¬ g = b := fun h => hbg h.symm
      have hbm : w0.heap.size ≤ g := HL2.out.bm g rfl
      go_wp2_with fail
      refine (Hla _ (by exact HB2.out)).out.mono ?_
      rintro e w3 ⟨rfl, kk, rfl⟩
      have HB3 := hid (show Blk (w2.drewN kk) b _ _ from HB2.out.drewN kk)
      have HL3 := hid (HL2.out.upd ((Upd.refl w2 []).drewN kk))
      have HU3 := hid (HU2.out.drewN kk)
      go_wp2
      go_ret
      have HU4 := hid ((HU3.out.setCell (p := ⟨g, (ms.length - 1) * 6 + 4, none⟩) (.inr hbm) (.int .i64 n)).setCell (p := ⟨b, 6, none⟩) (.inr hb) (.int .i64 7))
      exact ⟨rfl, HU4.out, rdBad_of (r := ⟨nm, sup, ifs, fl, ld, ms, 7⟩) ((HB3.out.far (p := ⟨g, (ms.length - 1) * 6 + 4, none⟩) hbg (.int .i64 n)).set_ 6 (.int .i64 7)) HL3.out⟩
    | some m =>
      go_enter Tryz.func156, Tryz.ntmps156
      go_wp2_with fail
      refine (Hct _ HM.out.max).out.mono ?_
      rintro e w1 ⟨rfl, hU1⟩
      have HB1 := hid (hU1.blk HB.out (by simp))
      have HL1 := hid (HL.out.upd hU1)
      have HU1 := hid (HU.out.trans hU1)
      have HM1 := hid (HM.out.upd hU1)
      have HE1 := hid (HE.out.upd hU1)
      clear hU1
      go_wp2_with fail
      refine (Hnu _ HM1.out HE1.out).out.mono ?_
      rintro e w2 ⟨⟨n, rfl, hn⟩, hU2⟩
      have HB2 := hid (hU2.blk HB1.out (by simp))
      have HL2 := hid (HL1.out.upd hU2)
      have HU2 := hid (HU1.out.trans hU2)
      have d6 := HB2.out.cell 6
      have f6 := HB2.out.frozen 6
      have hlt2 := HB2.out.lt
      simp [rdCells] at d6
      clear hU2
      obtain ⟨g, cap, hvm, hcap1, hcap2, hgl⟩ := own_form HL2.out.om (by exact hms)
      subst hvm
      have Hla := fun w hB => hid (last_any b g ms.length cap (.string (bs nm)) (.string (bs sup)) vi (.int .i64 fl) (.int .i64 ld) (.int .i64 6) w hB hms hmn)
      have x3 := HL2.out.om.cellAt ((ms.length - 1) * 6 + 4) (by show (ms.length - 1) * 6 + 4 < ms.length * 6; omega)
      rw [methRows_get (ms.length - 1) (by show ms.length - 1 < ms.length; omega) (by have := HL2.out.len; simp only at this; omega) 4 (by omega)] at x3
      simp only [methRow] at x3
      have fx := HL2.out.om.frozenAt ((ms.length - 1) * 6 + 4)
      have hbg : ¬ b = g := fun h => own_blk_ne HL2.out.om HB2.out ne_mr (by rw [h]; rfl)
      have hgb : ¬ g = b := fun h => hbg h.symm
      have hbm : w0.heap.size ≤ g := HL2.out.bm g rfl
      go_wp2_with fail
      refine (Hla _ (by exact HB2.out)).out.mono ?_
      rintro e w3 ⟨rfl, kk, rfl⟩
      have HB3 := hid (show Blk (w2.drewN kk) b _ _ from HB2.out.drewN kk)
      have HL3 := hid (HL2.out.upd ((Upd.refl w2 []).drewN kk))
      have HU3 := hid (HU2.out.drewN kk)
      go_wp2
      go_ret
      have HU4 := hid ((HU3.out.setCell (p := ⟨g, (ms.length - 1) * 6 + 4, none⟩) (.inr hbm) (.int .i64 n)).setCell (p := ⟨b, 6, none⟩) (.inr hb) (.int .i64 7))
      obtain rfl : n = m := hn m rfl
      have q1 := HL3.out.store (ms.length - 1) (by show ms.length - 1 < ms.length; omega) (fun m => { m with st := n }) 4 (.int .i64 n) (by omega) (fun m => rfl) (fun m c => rfl)
      have q2 := HB3.out.far (p := ⟨g, (ms.length - 1) * 6 + 4, none⟩) hbg (.int .i64 n)
      have hlm : (ms.modify (ms.length - 1) fun m => { m with st := n }).length = ms.length := List.length_modify ..
      obtain ⟨q3, q4⟩ := RInv.store (r := ⟨nm, sup, ifs, fl, ld, ms.modify (ms.length - 1) fun m => { m with st := n }, 6⟩) (r' := ⟨nm, sup, ifs, fl, ld, ms.modify (ms.length - 1) fun m => { m with st := n }, 7⟩) q2 q1 6 (.int .i64 7) rfl rfl rfl
      exact ⟨rfl, vi, _, cs, q3, q4, hb, HU4.out⟩
  · rw [decide_eq_false hw] at hkey2
    have hkn : ¬ (bs w1).toList = [115, 116, 97, 99, 107] := by rw [beq_eq_false_iff_ne] at hkey2; exact hkey2
    rw [if_neg hw]
    clear hw
    go_enter Tryz.func156, Tryz.ntmps156
    go_wp2_with fail
    refine (Hct _ HM.out.max).out.mono ?_
    rintro e w1 ⟨rfl, hU1⟩
    have HB1 := hid (hU1.blk HB.out (by simp))
    have HL1 := hid (HL.out.upd hU1)
    have HU1 := hid (HU.out.trans hU1)
    have HM1 := hid (HM.out.upd hU1)
    have HE1 := hid (HE.out.upd hU1)
    clear hU1
    go_wp2_with fail
    refine (Hnu _ HM1.out HE1.out).out.mono ?_
    rintro e w2 ⟨⟨n, rfl, hn⟩, hU2⟩
    have HB2 := hid (hU2.blk HB1.out (by simp))
    have HL2 := hid (HL1.out.upd hU2)
    have HU2 := hid (HU1.out.trans hU2)
    have d6 := HB2.out.cell 6
    have f6 := HB2.out.frozen 6
    have hlt2 := HB2.out.lt
    simp [rdCells] at d6
    clear hU2
    go_wp2
    go_ret
    exact ⟨rfl, HU2.out, rdBad_of HB2.out HL2.out⟩
end Go.Proofs.YtfpdeiefkimaaaaGreatDoor
/-
  The reader of lines: the first line of a method.
-/
set_option linter.unusedSimpArgs false
set_option linter.unusedVariables false
namespace Go.Proofs.YtfpdeiefkimaaaaGreatDoor
open Go.RowKit Go.Sort

/-! ### A line cut into four pieces at most -/
def takeN : Nat → List (List UInt8) → List (List UInt8)
  | 0, ps => [Lib.join ps [32]]
  | _ + 1, [] => []
  | _ + 1, [a] => [a]
  | k + 1, a :: b :: t => a :: takeN k (b :: t)
theorem splitK_takeN : ∀ (k : Nat) (s : List UInt8), Lib.splitK [32] 0 k s = takeN k (splitL 32 s)
  | 0, s => by
    show [s] = [Lib.join (splitL 32 s) [32]]
    rw [join_split]
  | k + 1, s => by
    unfold Lib.splitK
    rcases index_one 32 s with ⟨h1, h2⟩ | ⟨a, b, rfl, h2, h3⟩
    · rw [h1, if_pos (by rfl), splitL_none 32 s h2]
      rfl
    · rw [h3, if_neg (by rw [beq_iff_eq]; omega), splitL_cut 32 a b h2]
      have ih := splitK_takeN k b
      cases hs : splitL 32 b with
      | nil => exact absurd hs (splitL_ne 32 b)
      | cons x t =>
        rw [hs] at ih
        show _ = a :: takeN k (x :: t)
        rw [← ih]
        simp
theorem splitK_le : ∀ (k : Nat) (s q : List UInt8), q ∈ Lib.splitK [32] 0 k s → q.length ≤ s.length
  | 0, s, q, h => by
    simp [Lib.splitK] at h
    rw [h]
    exact Nat.le_refl _
  | k + 1, s, q, h => by
    unfold Lib.splitK at h
    split at h
    · simp only [List.mem_singleton] at h
      rw [h]
      exact Nat.le_refl _
    · rcases List.mem_cons.1 h with rfl | h
      · rw [List.length_take]; omega
      · have := splitK_le k _ q h
        rw [List.length_drop] at this
        omega
theorem splitK_len : ∀ (k : Nat) (s : List UInt8), (Lib.splitK [32] 0 k s).length ≤ k + 1
  | 0, _ => by simp [Lib.splitK]
  | k + 1, s => by
    unfold Lib.splitK
    split
    · simp
    · have := splitK_len k (s.drop ((Lib.index s [32]).toNat + ([32] : List UInt8).length))
      rw [List.length_cons]
      omega
theorem takeN_all : ∀ (k : Nat) (ps : List (List UInt8)), 1 ≤ ps.length → ps.length ≤ k + 1 → takeN k ps = ps
  | 0, [a], _, _ => by simp [takeN, Lib.join, List.intercalate, List.intersperse]
  | 0, a :: b :: t, _, h => by simp at h
  | _, [], h, _ => by simp at h
  | k + 1, [a], _, _ => rfl
  | k + 1, a :: b :: t, _, h => by
    show a :: takeN k (b :: t) = _
    rw [takeN_all k (b :: t) (by simp) (by simpa using h)]
theorem splitN4_any (line : List UInt8) (w : World) (hl : line.length < 4294967281) (hm : MaxLenAt w) :
    Calls Tryz.prog 213 #[.string (bs line), .string ⟨#[32]⟩, .int .i64 4] w fun e w' => (∃ cap, e = .returned (.slice (some ⟨w.heap.size, 0, none⟩) (takeN 3 (splitL 32 line)).length cap)) ∧ RowAt w' w.heap.size (takeN 3 (splitL 32 line)) ∧ Upd w w' [] := by
  obtain ⟨m, hm⟩ := hm
  have hc := Tryz.strings_SplitN (bs line) ⟨#[32]⟩ 4 m w (by rw [bs_size]; exact hl) hm (by decide) (by omega) (by omega)
  have h1 := Lib.splitB_data ⟨#[32]⟩ 0 (min 4 ((bs line).size + 1) - 1) (bs line)
  rw [show ((⟨#[32]⟩ : ByteArray).data.toList) = [32] from rfl, bs_data, splitK_takeN] at h1
  have h2 : takeN (min 4 ((bs line).size + 1) - 1) (splitL 32 line) = takeN 3 (splitL 32 line) := by
    rw [bs_size]
    by_cases h : 3 ≤ line.length
    · rw [show min 4 (line.length + 1) - 1 = 3 by omega]
    · have h3 : (splitL 32 line).length ≤ line.length + 1 := by
        rw [splitL_length]
        have := List.count_le_length (a := (32 : UInt8)) (l := line)
        omega
      have h4 : 1 ≤ (splitL 32 line).length := by rw [splitL_length]; omega
      rw [show min 4 (line.length + 1) - 1 = line.length by omega, takeN_all _ _ h4 (by omega), takeN_all 3 _ h4 (by omega)]
  rw [h2] at h1
  have hle := Lib.splitB_length_le ⟨#[32]⟩ 0 (min 4 ((bs line).size + 1) - 1) (bs line)
  generalize takeN 3 (splitL 32 line) = qs at h1 ⊢
  generalize Lib.splitB ⟨#[32]⟩ 0 (min 4 ((bs line).size + 1) - 1) (bs line) = xs at hc h1 hle
  have h3 : xs.length = qs.length := by rw [← h1, List.length_map]
  refine hc.mono ?_
  rintro e w' ⟨rfl, rfl⟩
  refine ⟨⟨_, by rw [h3]⟩, ⟨by simp, fun i hi => ?_⟩, (Upd.refl _ _).alloc _⟩
  have hB := Blk.new w 9 (Lib.cellsOf xs (min 4 ((bs line).size + 1)))
  rw [hB.cell i]
  have hix : i < xs.length := by omega
  unfold Lib.cellsOf
  have hq : qs[i] = (xs[i]).data.toList := by
    have := congrArg (fun l : List (List UInt8) => l[i]?) h1
    simp only [List.getElem?_map, List.getElem?_eq_getElem hix, List.getElem?_eq_getElem hi] at this
    exact (Option.some.inj this).symm
  rw [hq, bs_of]
  simp [List.getElem?_append_left, hix]

/-- The first line of a method, by its pieces. -/
def beginQ : List (List UInt8) → Option MethS
  | [a, b, c] => if a = wMethod ∧ b ≠ [] ∧ c ≠ [] then some ⟨b, c, 0, 0, 0, []⟩ else none
  | [a, b, c, r] => if (a = wMethod ∧ b ≠ [] ∧ c ≠ []) ∧ (parseF 1055 r).2 = 0 ∧ r ≠ [] then some ⟨b, c, (parseF 1055 r).1, 0, 0, []⟩ else none
  | _ => none
theorem begin_law (ps : List (List UInt8)) : beginP ps = beginQ (takeN 3 ps) := by
  match ps with
  | [] => rfl
  | [a] => rfl
  | [a, b] => rfl
  | [a, b, c] =>
    show (if a = wMethod ∧ b ≠ [] ∧ c ≠ [] then (flagsP 1055 []).map fun f => (⟨b, c, f, 0, 0, []⟩ : MethS) else none) = if a = wMethod ∧ b ≠ [] ∧ c ≠ [] then some ⟨b, c, 0, 0, 0, []⟩ else none
    split <;> rfl
  | a :: b :: c :: d :: t =>
    show (if a = wMethod ∧ b ≠ [] ∧ c ≠ [] then (flagsP 1055 (d :: t)).map fun f => (⟨b, c, f, 0, 0, []⟩ : MethS) else none) = if (a = wMethod ∧ b ≠ [] ∧ c ≠ []) ∧ (parseF 1055 (Lib.join (d :: t) [32])).2 = 0 ∧ Lib.join (d :: t) [32] ≠ [] then some ⟨b, c, (parseF 1055 (Lib.join (d :: t) [32])).1, 0, 0, []⟩ else none
    unfold flagsP
    rw [if_neg (show ¬ (d :: t) = [] by simp)]
    generalize Lib.join (d :: t) [32] = r
    by_cases h1 : a = wMethod ∧ b ≠ [] ∧ c ≠ []
    · rw [if_pos h1]
      by_cases h2 : r = []
      · rw [if_pos h2, if_neg (fun h => h.2.2 h2)]
        rfl
      · rw [if_neg h2]
        by_cases h3 : (parseF 1055 r).2 = 0
        · rw [if_pos h3, if_pos ⟨h1, h3, h2⟩]
          rfl
        · rw [if_neg h3, if_neg (fun h => h3 h.2.1)]
          rfl
    · rw [if_neg h1, if_neg (fun h => h1 h.1)]
end Go.Proofs.YtfpdeiefkimaaaaGreatDoor
