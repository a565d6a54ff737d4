/-
  strconv.Atoi at every text: a number, and some error or none; what Itoa writes is read again.
-/
import Derived.Lib.AtoiAllCases
import Derived.Lib.ItoaLen
import Derived.Lib.QuietBelow
import Derived.Test.YtfpdeiefkimaaaaGreatDoorK7
import Derived.Test.YtfpdeiefkimaaaaGreatDoorKF
set_option linter.unusedSimpArgs false
set_option linter.unusedVariables false
namespace Go.Proofs.YtfpdeiefkimaaaaGreatDoor
open Go.RowKit

/-- What the library's variables of errors hold, as far as Atoi asks. -/
structure ErrsAt (w : World) : Prop where
  range : ∃ ev, w.cell? ⟨8, 0, none⟩ = some ev ∧ (ev = .nilIface ∨ ∃ te pe, ev = .iface te pe)
  synt : ∃ ev, w.cell? ⟨7, 0, none⟩ = some ev ∧ (ev = .nilIface ∨ ∃ te pe, ev = .iface te pe)
theorem ErrsAt.upd {w w' : World} (h : ErrsAt w) (u : Upd w w' []) : ErrsAt w' := by
  obtain ⟨⟨a, ha, ha2⟩, ⟨b, hb, hb2⟩⟩ := h
  exact ⟨⟨a, (u.cells.1 _ _ (World.block_lt_of_cell? w ⟨_, 0, none⟩ ha)).trans ha, ha2⟩, ⟨b, (u.cells.1 _ _ (World.block_lt_of_cell? w ⟨_, 0, none⟩ hb)).trans hb, hb2⟩⟩

theorem bytesWorld_upd (w : World) (e : TypeId) (t : ByteArray) : Upd w (Lib.bytesWorld w e t) [] := by
  unfold Lib.bytesWorld
  have h : Upd w (w.drew.alloc (.cells (Lib.bytesCells w e t) e)) [] := ((Upd.refl w []).drew).alloc _
  refine ⟨h.os, h.tape, h.output, ?_, fun b hb _ => ?_⟩
  · unfold World.freeze
    split
    · exact h.size
    · simp
  · unfold World.freeze
    split
    · exact h.block b hb (by simp)
    · simp only [Array.getElem?_modify]
      rw [if_neg (by show ¬ w.heap.size = b; omega)]
      exact h.block b hb (by simp)

/-- The number that Atoi answers. -/
def atoiV (l : List UInt8) : Int := match Lib.atoiAll l with
  | .ok v => v
  | .range => Lib.atoiSat l
  | _ => 0
theorem atoiV_bd (l : List UInt8) : -9223372036854775808 ≤ atoiV l ∧ atoiV l ≤ 9223372036854775807 := by
  unfold atoiV
  cases h : Lib.atoiAll l with
  | ok v => exact Lib.atoiAll_bounds h
  | range =>
    simp only [Lib.atoiSat]
    split <;> omega
  | _ => simp only; omega

theorem atoi_any (l : List UInt8) (w : World) (hl : l.length ≤ 281474976710656) (he : ErrsAt w) :
    Calls Tryz.prog 212 #[.string (bs l)] w fun e w' => (∃ ev, e = .returned (.tuple #[.int .i64 (atoiV l), ev])) ∧ Upd w w' [] := by
  obtain ⟨⟨ra, ha, ha2⟩, ⟨rb, hb, hb2⟩⟩ := he
  have hs : (bs l).size ≤ 281474976710656 := by rw [bs_size]; exact hl
  unfold atoiV
  cases h : Lib.atoiAll l with
  | ok v =>
    refine (Tryz.strconv_Atoi_ok (bs l) (by omega) v (by rw [bs_data]; exact h) w).mono ?_
    rintro e w' ⟨rfl, hw⟩
    refine ⟨⟨_, rfl⟩, ?_⟩
    rcases hw with rfl | ⟨t, rfl⟩
    · exact Upd.refl _ _
    · exact bytesWorld_upd w _ t
  | range =>
    refine (Tryz.strconv_Atoi_range (bs l) hs (by rw [bs_data]; exact h) ra w ha ha2).mono ?_
    rintro e w' ⟨N, rfl, -, -, hB⟩
    rw [bs_data]
    exact ⟨⟨_, rfl⟩, Upd.of_below hB []⟩
  | _ =>
    refine (Any.strconv_Atoi_syntax Tryz.laysC172 (bs l) hs (by rw [bs_data]; exact h) rb w hb hb2).mono ?_
    rintro e w' ⟨N, rfl, -, -, hB⟩
    exact ⟨⟨_, rfl⟩, Upd.of_below hB []⟩

theorem dec_parse : ∀ (u : Nat) (r : List UInt8), u < 18446744073709551610 → Lib.parseUint10 0 (Lib.decDigits u ++ r) = Lib.parseUint10 u r := by
  intro u
  induction u using Nat.strongRecOn with
  | ind u ih =>
    intro r hu
    rw [Lib.decDigits]
    by_cases h : u < 10
    · rw [dif_pos h]
      have hc : (UInt8.ofNat (48 + u)).toNat = 48 + u := by simp; omega
      rw [List.singleton_append, Lib.parseUint10, hc, if_pos (by omega), if_neg (by omega), if_neg (by omega)]
      congr 1
      omega
    · rw [dif_neg h, List.append_assoc, ih (u / 10) (by omega) _ (by omega)]
      have hc : (UInt8.ofNat (48 + u % 10)).toNat = 48 + u % 10 := by simp; omega
      rw [List.singleton_append, Lib.parseUint10, hc, if_pos (by omega), if_neg (by omega), if_neg (by omega)]
      congr 1
      omega
theorem dec_head : ∀ u : Nat, ∃ c t, Lib.decDigits u = c :: t ∧ 48 ≤ c.toNat ∧ c.toNat ≤ 57 := by
  intro u
  induction u using Nat.strongRecOn with
  | ind u ih =>
    rw [Lib.decDigits]
    by_cases h : u < 10
    · rw [dif_pos h]
      exact ⟨_, _, rfl, by simp; omega, by simp; omega⟩
    · rw [dif_neg h]
      obtain ⟨c, t, e, h1, h2⟩ := ih (u / 10) (by omega)
      exact ⟨c, t ++ [UInt8.ofNat (48 + u % 10)], by rw [e]; rfl, h1, h2⟩
theorem mag_dec (u : Nat) (h : u < 18446744073709551610) : Lib.parseMag (Lib.decDigits u) = .ok u := by
  obtain ⟨c, t, e, -, -⟩ := dec_head u
  unfold Lib.parseMag
  rw [if_neg (by rw [e]; simp)]
  have := dec_parse u [] h
  rw [List.append_nil] at this
  rw [this]
  rfl
theorem atoi_itoa (n : Int) (h0 : -9223372036854775808 ≤ n) (h1 : n ≤ 9223372036854775807) : Lib.atoiAll (Lib.itoa n) = .ok n := by
  unfold Lib.itoa
  by_cases hn : n < 0
  · rw [if_pos hn, Lib.atoiAll_minus, mag_dec _ (by omega)]
    unfold Lib.signed
    simp only
    rw [if_neg (by omega)]
    congr 1
    omega
  · rw [if_neg hn]
    obtain ⟨c, t, e, h2, h3⟩ := dec_head n.toNat
    have hm := mag_dec n.toNat (by omega)
    rw [e] at hm ⊢
    rw [Lib.atoiAll_plain c t (by omega) (by omega), hm]
    unfold Lib.signless
    simp only
    rw [if_neg (by omega)]
    congr 1
    omega
theorem atoiV_itoa (n : Int) (h0 : -9223372036854775808 ≤ n) (h1 : n ≤ 9223372036854775807) : atoiV (Lib.itoa n) = n := by
  unfold atoiV
  rw [atoi_itoa n h0 h1]
end Go.Proofs.YtfpdeiefkimaaaaGreatDoor
/-
  code.Parse: what it reads; Split at blanks; the plain laws.
-/
set_option linter.unusedSimpArgs false
set_option linter.unusedVariables false
namespace Go.Proofs.YtfpdeiefkimaaaaGreatDoor
open Go.RowKit

/-- Split at blanks. -/
theorem split32_any (l : List UInt8) (w : World) (hl : l.length < 4294967281) (hm : MaxLenAt w) :
    Calls Tryz.prog 201 #[.string (bs l), .string ⟨#[32]⟩] w fun e w' => e = .returned (.slice (some ⟨w.heap.size, 0, none⟩) (splitL 32 l).length (splitL 32 l).length) ∧ w' = w.alloc (.cells ((splitL 32 l).map strV).toArray 9) := by
  obtain ⟨m, hm⟩ := hm
  have hc := Tryz.strings_Split (bs l) ⟨#[32]⟩ m w (by rw [bs_size]; exact hl) hm (by decide)
  have h1 := Lib.splitB_data ⟨#[32]⟩ 0 (Lib.countB (bs l) ⟨#[32]⟩) (bs l)
  have h2 : Lib.splitK [32] 0 (Lib.countB (bs l) ⟨#[32]⟩) (bs l).data.toList = splitL 32 (bs l).data.toList := split_one 32 (bs l).data.toList
  rw [show ((⟨#[32]⟩ : ByteArray).data.toList) = [32] from rfl, h2] at h1
  have h3 : (Lib.splitB ⟨#[32]⟩ 0 (Lib.countB (bs l) ⟨#[32]⟩) (bs l)).length = Lib.countB (bs l) ⟨#[32]⟩ + 1 := by
    have := congrArg List.length h1
    rw [List.length_map, splitL_length] at this
    rw [this]
    congr 1
    exact (count_one 32 (bs l).data.toList).symm
  rw [← h3] at hc
  rw [bs_data] at h1
  generalize Lib.splitB ⟨#[32]⟩ 0 (Lib.countB (bs l) ⟨#[32]⟩) (bs l) = ps at hc h1
  have h4 : ps.length = (splitL 32 l).length := by rw [← h1, List.length_map]
  have h5 : ps.map Value.string = (splitL 32 l).map strV := by
    rw [← h1, List.map_map]
    refine List.map_congr_left fun p _ => ?_
    simp only [Function.comp, strV, bs_of]
  rw [h4, h5] at hc
  exact hc

/-- The last instruction among the first k whose word this is; 0, if there is none. -/
def opL (wd : List UInt8) : Nat → Nat
  | 0 => 0
  | k + 1 => if 0 < k ∧ wordL k = wd then k else opL wd k
def opN (wd : List UInt8) : Nat := opL wd 41
theorem opL_le (wd : List UInt8) : ∀ k, opL wd k ≤ k - 1
  | 0 => by simp [opL]
  | k + 1 => by
    have := opL_le wd k
    unfold opL
    split <;> omega
theorem opN_le (wd : List UInt8) : opN wd ≤ 40 := opL_le wd 41
/-- What Parse puts together out of a line's words. -/
def parseJ (l : List UInt8) : InstL :=
  let ps := splitL 32 l
  let op := opN (ps.headD [])
  let k := kindL op
  ⟨op, if (k = 1 ∨ k = 2 ∨ k = 3 ∨ k = 7) ∧ 1 < ps.length then atoiV (ps.getD 1 []) else 0, if k = 4 ∨ k = 5 ∨ k = 6 ∨ k = 7 then ps.getLastD [] else [], if k = 8 then (refOut (ps.getLastD [])).1 else noRefL⟩
/-- The instruction that a line writes, and the error. -/
def parseOut (l : List UInt8) : InstL × Int := if (parseJ l).ok && decide ((parseJ l).text = l) then (parseJ l, 0) else (⟨0, 0, [], noRefL⟩, 4)

theorem splitL_lens (l : List UInt8) (hl : l.length ≤ 9000000000000) : (∀ p, p ∈ splitL 32 l → p.length ≤ 9000000000000) ∧ (splitL 32 l) ≠ [] := ⟨fun p hp => Nat.le_trans (splitL_le 32 l p hp) hl, splitL_ne 32 l⟩
theorem getLastD_mem {α : Type} (d : α) : ∀ (l : List α), l ≠ [] → l.getLastD d ∈ l
  | [], h => absurd rfl h
  | a :: t, _ => by
    rw [List.getLastD_cons]
    cases t with
    | nil => simp
    | cons b r => exact List.mem_cons_of_mem _ (by
        have := getLastD_mem a (b :: r) (by simp)
        simpa using this)
theorem parseJ_fit (l : List UInt8) (hl : l.length ≤ 9000000000000) : (parseJ l).fit ∧ (parseJ l).num := by
  obtain ⟨h1, h2⟩ := splitL_lens l hl
  have h3 := h1 _ (getLastD_mem [] _ h2)
  unfold parseJ
  simp only
  refine ⟨⟨?_, ?_⟩, ?_⟩
  · simp only
    split
    · omega
    · simp
  · simp only
    split
    · exact refOut_fit _ (by omega)
    · simp [RefL.fit, noRefL]
  · unfold InstL.num
    simp only
    split
    · exact atoiV_bd _
    · omega
end Go.Proofs.YtfpdeiefkimaaaaGreatDoor
/-
  A sound instruction's text is read as it: plain laws.
-/
set_option linter.unusedSimpArgs false
set_option linter.unusedVariables false
namespace Go.Proofs.YtfpdeiefkimaaaaGreatDoor
open Go.RowKit

/-- A byte that is neither a blank nor an end of line. -/
def noWs (b : UInt8) : Prop := b.toNat ≠ 32 ∧ b.toNat ≠ 10
theorem dec_no : ∀ u : Nat, ∀ b, b ∈ Lib.decDigits u → noWs b := by
  intro u
  induction u using Nat.strongRecOn with
  | ind u ih =>
    intro b hb
    rw [Lib.decDigits] at hb
    by_cases h : u < 10
    · rw [dif_pos h] at hb
      simp only [List.mem_singleton] at hb
      subst hb
      unfold noWs
      simp
      omega
    · rw [dif_neg h] at hb
      rcases List.mem_append.1 hb with hb | hb
      · exact ih (u / 10) (by omega) b hb
      · simp only [List.mem_singleton] at hb
        subst hb
        unfold noWs
        simp
        omega
theorem itoa_no (n : Int) : ∀ b, b ∈ Lib.itoa n → noWs b := by
  intro b hb
  unfold Lib.itoa at hb
  split at hb
  · rcases List.mem_cons.1 hb with rfl | hb
    · unfold noWs; decide
    · exact dec_no _ b hb
  · exact dec_no _ b hb
/-- Cut at c and joined again. -/
theorem join_split (c : UInt8) (l : List UInt8) : Lib.join (splitL c l) [c] = l := by
  induction l using (measure List.length).wf.induction with
  | h l ih =>
    by_cases hc : c ∈ l
    · obtain ⟨a, b, rfl, ha⟩ := List.eq_append_cons_of_mem hc
      rw [splitL_cut c a b ha]
      have hb := ih b (by show b.length < (a ++ c :: b).length; simp; omega)
      have hne := splitL_ne c b
      cases hs : splitL c b with
      | nil => exact absurd hs hne
      | cons x t =>
        rw [hs] at hb
        rw [← hb]
        simp [Lib.join, List.intercalate, List.intersperse]
    · rw [splitL_none c l hc]
      simp [Lib.join, List.intercalate, List.intersperse]

theorem parseOut_good {l : List UInt8} (h : (parseOut l).2 = 0) : (parseOut l).1.ok = true ∧ (parseOut l).1.text = l ∧ (parseOut l).1 = parseJ l := by
  unfold parseOut at h ⊢
  split at h
  · rename_i hc
    rw [if_pos hc]
    simp only [Bool.and_eq_true, decide_eq_true_eq] at hc
    exact ⟨hc.1, hc.2, rfl⟩
  · simp at h
end Go.Proofs.YtfpdeiefkimaaaaGreatDoor
/-
  code.Parse, walked.
-/
set_option linter.unusedSimpArgs false
set_option linter.unusedVariables false
namespace Go.Proofs.YtfpdeiefkimaaaaGreatDoor
open Go.RowKit Go.Sort

theorem setRow_blk {w : World} {g : Nat} {t : TypeId} {cs : Array Value} (h : Blk w g t cs) (cs' : Array Value) : Blk (w.setRow g cs') g t cs' := by
  unfold Blk at h ⊢
  simp [World.setRow, Array.getElem?_modify, h]
theorem setRow_upd {a w : World} {g : Nat} (h : Upd a w []) (hg : a.heap.size ≤ g) (cs : Array Value) : Upd a (w.setRow g cs) [] :=
  ⟨h.os, h.tape, h.output, by simpa [World.setRow] using h.size, fun b hb hn => by
    show ((w.heap.modify g _)[b]?) = _
    rw [Array.getElem?_modify, if_neg (by omega)]
    exact h.block b hb hn⟩
theorem sizeInst : (Tryz.prog.info? 90).map (·.size) = some 7 := by kernel_rfl
theorem undInst : ∃ f, Tryz.prog.underlying 90 = some (.struct f) := by
  have h : (match Tryz.prog.underlying 90 with | some (.struct _) => true | _ => false) = true := by kernel_rfl
  revert h
  generalize Tryz.prog.underlying 90 = u
  intro h
  match u, h with
  | some (.struct f), _ => exact ⟨f, rfl⟩
def zeroI : Array Value := #[.int .i64 0, .int .i64 0, .string ⟨#[]⟩, .bool false, .string ⟨#[]⟩, .string ⟨#[]⟩, .string ⟨#[]⟩]
def opI (o : Nat) : Array Value := #[.int .i64 (o : Int), .int .i64 0, .string ⟨#[]⟩, .bool false, .string ⟨#[]⟩, .string ⟨#[]⟩, .string ⟨#[]⟩]
def opRel (hd : List UInt8) (b5 : Nat) (w1 : World) (t : Value) (wr : World) : Prop :=
  ∃ k : Nat, t = .int .i64 k ∧ k ≤ 41 ∧ Hid (Blk wr b5 90 (opI (opL hd k))) ∧ Upd w1 wr []
theorem opL_step (hd : List UInt8) (k : Nat) : opL hd (k + 1) = if 0 < k ∧ wordL k = hd then k else opL hd k := rfl

set_option maxHeartbeats 16000000 in
set_option maxRecDepth 1000000 in
theorem parseI_any (l : List UInt8) (w : World) (hl : l.length ≤ 4000000000) (hr : Rdy w) (he : ErrsAt w) :
    Calls Tryz.prog 215 #[.string (bs l)] w fun e w' => e = .returned (.tuple #[(parseOut l).1.v, .int .i64 (parseOut l).2]) ∧ Upd w w' [] := by
  obtain ⟨hfit, hnum⟩ := parseJ_fit l (by omega)
  have HFN := hid (And.intro hfit hnum)
  have Hsp := fun w hm => hid (split32_any l w (by omega) hm)
  have HR := hid hr
  have HE := hid he
  have hlens := splitL_lens l (by omega)
  have hlastP : ((splitL 32 l).getLastD []).length ≤ l.length := splitL_le 32 l _ (getLastD_mem [] _ hlens.2)
  have hcnt : (splitL 32 l).length ≤ 4000000001 := by
    rw [splitL_length]
    have := List.count_le_length (a := (32 : UInt8)) (l := l)
    omega
  have HJ : Hid (parseJ l = ⟨opN ((splitL 32 l).headD []), if (kindL (opN ((splitL 32 l).headD [])) = 1 ∨ kindL (opN ((splitL 32 l).headD [])) = 2 ∨ kindL (opN ((splitL 32 l).headD [])) = 3 ∨ kindL (opN ((splitL 32 l).headD [])) = 7) ∧ 1 < (splitL 32 l).length then atoiV ((splitL 32 l).getD 1 []) else 0,
    if kindL (opN ((splitL 32 l).headD [])) = 4 ∨ kindL (opN ((splitL 32 l).headD [])) = 5 ∨ kindL (opN ((splitL 32 l).headD [])) = 6 ∨ kindL (opN ((splitL 32 l).headD [])) = 7 then (splitL 32 l).getLastD [] else [], if kindL (opN ((splitL 32 l).headD [])) = 8 then (refOut ((splitL 32 l).getLastD [])).1 else noRefL⟩) := hid rfl
  have HO : Hid (parseOut l = if (parseJ l).ok && decide ((parseJ l).text = l) then (parseJ l, 0) else (⟨0, 0, [], noRefL⟩, 4)) := hid rfl
  have Hpr := fun w hm => hid (print_any (parseJ l) w HFN.out.1 HFN.out.2 hm)
  unfold printPost at Hpr
  clear hfit hnum hr he
  generalize parseOut l = PO at HO ⊢
  generalize parseJ l = J at HJ HO Hpr HFN
  generalize splitL 32 l = ps at *
  obtain ⟨hpl, hne⟩ := hlens
  have hpos : 0 < ps.length := by
    cases ps with
    | nil => exact absurd rfl hne
    | cons a t => simp
  have Hhd : Hid (ps[0]'hpos = ps.headD []) := hid (by cases ps with
    | nil => exact absurd rfl hne
    | cons a t => rfl)
  have Hla : Hid (ps[ps.length - 1]'(by omega) = ps.getLastD []) := hid (by rw [List.getLastD_eq_getLast?, List.getLast?_eq_getElem?, List.getElem?_eq_getElem (by omega)]; rfl)
  have Hle : Hid (∀ i (h : i < ps.length), ps[i].length ≤ 9000000000000) := hid (fun i h => hpl _ (List.getElem_mem h))
  obtain ⟨lastP, hlp⟩ : ∃ x, ps.getLastD [] = x := ⟨_, rfl⟩
  obtain ⟨hd, hhd⟩ : ∃ x, ps.headD [] = x := ⟨_, rfl⟩
  rw [hlp] at HJ Hla
  rw [hhd] at HJ Hhd
  have hop := opN_le hd
  obtain ⟨op, hopn⟩ : ∃ o, opN hd = o := ⟨_, rfl⟩
  rw [hopn] at HJ hop
  have Hop := hid hopn
  have hll : lastP.length ≤ l.length := by rw [← hlp]; exact hlastP
  clear hpl hne hlp hhd hopn hlastP
  have HSt := fun (k : Nat) => hid (opL_step hd k)
  go_enter Tryz.func215, Tryz.ntmps215
  have hU0 : Upd w (w.alloc (.cells zeroI 90)) [] := (Upd.refl _ _).alloc _
  unfold zeroI at hU0
  go_wp2_with fail
  refine (Hsp _ (HR.out.upd hU0).max).out.mono ?_
  rintro e w1 ⟨rfl, hw1⟩
  have hU1 : Upd w w1 [] := by rw [hw1]; exact hU0.alloc _
  have HB2 := hid (show Blk w1 w.heap.size 90 zeroI by rw [hw1]; exact (Blk.new _ _ _).alloc _)
  have HBL := hid (show Blk w1 (w.heap.size + 1) 9 (ps.map strV).toArray by rw [hw1]; exact Blk.new_at (by simp))
  have hz1 : w.heap.size + 1 < w1.heap.size := by rw [hw1]; simp
  have HU1 := hid hU1
  clear hU0 hU1 hw1
  have HBI := hid (Blk.new w1 90 zeroI)
  have hc0 : (ps.map strV).toArray[0]? = some (.string (bs hd)) := by
    rw [← Hhd.out]
    simp [hpos, strV]
  have Hc0 := hid hc0
  clear hc0
  have hposI : (0 : Int) < ps.length := by omega
  go_wp2_with fail
  refine (specs_any _).mono ?_
  rintro e w2 ⟨rfl, hU2⟩
  have HV2 := hid (((Upd.refl w1 []).alloc (.cells zeroI 90)).trans hU2)
  have HBI2 := hid (hU2.blk HBI.out (by simp))
  have hz2 : w1.heap.size < w2.heap.size := HBI2.out.lt
  clear HBI
  have hsr := fun (k : Nat) (h : k < 41) => run_spec (k : Int) (by omega) (by omega)
  generalize specCells = S at hsr
  have HSR := hid hsr
  clear hU2 hsr
  go_wp2
  go_loopw [14] (fun t wr => opRel hd w1.heap.size w1 t wr) (fun t _ => 41 - (intOf t).toNat)
  case atStart => exact ⟨0, rfl, by omega, HBI2, HV2.out⟩
  case round =>
    obtain ⟨k, rfl, hk, hB, hU⟩ := hrel
    have HU := hid hU
    have hB2 := hU.blk HB2.out (by simp)
    have hBL := hU.blk HBL.out (by simp)
    have hzr : w1.heap.size < wr.heap.size := hB.out.lt
    by_cases hlt : k < 41
    · have hix := HSR.out k hlt
      have hst := HSt k
      generalize (specT.getD ((k : Nat) : Int).toNat ([], 0)).2 = sk at hix
      generalize wordL k = wd at hix hst
      have hki : (k : Int) < 41 := by omega
      obtain ⟨wa, hwa⟩ : ∃ wa, wa = wr.alloc (.cells #[.string (bs wd), .int .i64 (sk : Int)] 137) := ⟨_, rfl⟩
      have hUa : Upd wr wa [] := by rw [hwa]; exact (Upd.refl _ _).alloc _
      have hBa : Blk wa wr.heap.size 137 #[.string (bs wd), .int .i64 (sk : Int)] := by rw [hwa]; exact Blk.new _ _ _
      have hLa := (hUa.blk hBL (by simp)).cell 0
      rw [Hc0.out] at hLa
      have q0 := hBa.cell 0
      simp at q0
      have r0 := cell_regrown q0
      have rl := cell_regrown hLa
      have HUa := hid hUa
      have HBa := hid (hUa.blk hB.out (by simp))
      have Hwa := hid hwa
      have hkey := bs_beq wd hd
      clear hwa hUa hBa hB hB2 hBL hU HBI2
      by_cases hk0 : 0 < k
      · have hk0i : (0 : Int) < k := by omega
        by_cases hw : wd = hd
        · rw [decide_eq_true hw] at hkey
          have Hop2 := hid (show opL hd (k + 1) = k by rw [hst.out, if_pos ⟨hk0, hw⟩])
          clear hw hst
          go_wp2
          rw [← Hwa.out]
          refine wp_region_quiet_below (by kernel_rfl) (by kernel_rfl) ?_
          repeat (any_goals (first | go_big_quiet_step (fail) | quiet_step (fail)))
          refine wpQuiet_nil ?_
          intro _ hw'
          obtain ⟨⟨dq, osq⟩, hw''⟩ := hw'
          subst hw''
          have HU4 := hid (Upd.of_below (below_regrown wa dq osq) [])
          have HB4 := hid (HU4.out.blk HBa.out (by simp))
          revert HU4 HB4
          generalize grow (redrawn wa dq) osq = w4
          intro HU4 HB4
          have hz4 : w1.heap.size < w4.heap.size := HB4.out.lt
          have g0 := HB4.out.frozen 0
          have g1 := HB4.out.cell 0
          simp [opI] at g1
          clear r0 rl q0 hLa
          have HB5 := hid (HB4.out.set_ 0 (.int .i64 (k : Int)))
          have HU5 := hid (((HU.out.trans HUa.out).trans HU4.out).setCell (p := ⟨w1.heap.size, 0, none⟩) (.inr (Nat.le_refl _)) (.int .i64 (k : Int)))
          go_wp2
          go_roundw
          case rel => exact ⟨k + 1, by go_num, by omega, hid (by rw [Hop2.out]; exact HB5.out), HU5.out⟩
          case measure => simp [intOf]; omega
        · rw [decide_eq_false hw] at hkey
          have Hop2 := hid (show opL hd (k + 1) = opL hd k by rw [hst.out, if_neg (fun h => hw h.2)])
          clear hw hst
          go_wp2
          rw [← Hwa.out]
          refine wp_region_quiet_below (by kernel_rfl) (by kernel_rfl) ?_
          repeat (any_goals (first | go_big_quiet_step (fail) | quiet_step (fail)))
          refine wpQuiet_nil ?_
          intro _ hw'
          obtain ⟨⟨dq, osq⟩, hw''⟩ := hw'
          subst hw''
          have HU4 := hid (Upd.of_below (below_regrown wa dq osq) [])
          have HB4 := hid (HU4.out.blk HBa.out (by simp))
          revert HU4 HB4
          generalize grow (redrawn wa dq) osq = w4
          intro HU4 HB4
          clear r0 rl q0 hLa
          go_wp2
          go_roundw
          case rel => exact ⟨k + 1, by go_num, by omega, hid (by rw [Hop2.out]; exact HB4.out), (HU.out.trans HUa.out).trans HU4.out⟩
          case measure => simp [intOf]; omega
      · have hk0i : decide ((0 : Int) < k) = false := decide_eq_false (by omega)
        have hk0n : decide (0 < k) = false := decide_eq_false hk0
        have Hop2 := hid (show opL hd (k + 1) = opL hd k by rw [hst.out, if_neg (fun h => hk0 h.1)])
        clear hst hkey hk0
        go_wp2
        rw [← Hwa.out]
        refine wp_region_quiet_below (by kernel_rfl) (by kernel_rfl) ?_
        repeat (any_goals (first | go_big_quiet_step (fail) | quiet_step (fail)))
        refine wpQuiet_nil ?_
        intro _ hw'
        obtain ⟨⟨dq, osq⟩, hw''⟩ := hw'
        subst hw''
        have HU4 := hid (Upd.of_below (below_regrown wa dq osq) [])
        have HB4 := hid (HU4.out.blk HBa.out (by simp))
        revert HU4 HB4
        generalize grow (redrawn wa dq) osq = w4
        intro HU4 HB4
        clear r0 rl q0 hLa
        go_wp2
        go_roundw
        case rel => exact ⟨k + 1, by go_num, by omega, hid (by rw [Hop2.out]; exact HB4.out), (HU.out.trans HUa.out).trans HU4.out⟩
        case measure => simp [intOf]; omega
    · obtain rfl : k = 41 := by omega
      have hB' := hB.out
      rw [show opL hd 41 = op from Hop.out] at hB'
      have HB3 := hid hB'
      have hL := hBL.cell (ps.length - 1)
      have hLx : (ps.map strV).toArray[ps.length - 1]? = some (.string (bs lastP)) := by
        rw [← Hla.out]
        simp [strV, List.getElem?_eq_getElem (show ps.length - 1 < ps.length by omega)]
      rw [hLx] at hL
      have hw1 : wrap64 ((ps.length : Int) - 1) = (ps.length : Int) - 1 := by unfold wrap64; omega
      have hn1 : ((ps.length : Int) - 1).toNat = ps.length - 1 := by omega
      have hn2 : (0 : Int) ≤ (ps.length : Int) - 1 := by omega
      have hn3 : (1 : Int) ≤ (ps.length : Int) := by omega
      have hn4 : (ps.length : Int) - 1 < (ps.length : Int) := by omega
      have g0 := hB'.cell 0
      simp [opI] at g0
      have HBLr := hid hBL
      have hzl : w.heap.size + 1 < wr.heap.size := by omega
      clear hB hB' hLx hB2 hBL hU HBI2 HSR HSt Hc0 Hhd Hop
      have Hopr := fun w => hid (operand_any (op : Int) w)
      obtain ⟨kk, hkk⟩ : ∃ kk, kindL (op : Int) = kk := ⟨_, rfl⟩
      rw [hkk] at Hopr HJ
      clear hkk
      go_wp2_with fail
      refine (Hopr _).out.mono ?_
      rintro e w5 ⟨rfl, hU5⟩
      have HB5 := hid (hU5.blk HB3.out (by simp))
      have HL5 := hid (hU5.blk HBLr.out (by simp))
      have HU5 := hid (HU.out.trans hU5)
      have hz5 : w1.heap.size < w5.heap.size := HB5.out.lt
      clear hU5 HB3 HBLr HU hL g0 hw1 hn1 hn2 hn3 hn4 hzr hzl
      go_upto_block 2 with (fail)
      go_cut [40] (fun _ wx => Hid (Blk wx w1.heap.size 90 J.cells) ∧ Upd w1 wx [])
      case first =>
        have c0 := HB5.out.cell 0
        have c1 := HB5.out.cell 1
        have c2 := HB5.out.cell 2
        have c3 := HB5.out.cell 3
        have c4 := HB5.out.cell 4
        have c5 := HB5.out.cell 5
        have c6 := HB5.out.cell 6
        have f1 := HB5.out.frozen 1
        have f2 := HB5.out.frozen 2
        have f3 := HB5.out.frozen 3
        have f4 := HB5.out.frozen 4
        have f5 := HB5.out.frozen 5
        have f6 := HB5.out.frozen 6
        simp [opI] at c0 c1 c2 c3 c4 c5 c6
        by_cases k1 : kk = 1
        · subst k1
          by_cases hlen : 1 < ps.length
          · have hleni : (1 : Int) < ps.length := by omega
            have hL1 := HL5.out.cell 1
            have hLx : (ps.map strV).toArray[1]? = some (.string (bs (ps.getD 1 []))) := by
              rw [List.getD_eq_getElem?_getD, List.getElem?_eq_getElem hlen]
              simp [strV, List.getElem?_eq_getElem hlen]
            rw [hLx] at hL1
            have hp1 : (ps.getD 1 []).length ≤ 281474976710656 := by
              rw [List.getD_eq_getElem?_getD, List.getElem?_eq_getElem hlen]
              exact Nat.le_trans (Hle.out 1 hlen) (by omega)
            have HJ2 := hid (HJ.out.trans (by rw [if_pos ⟨by omega, hlen⟩]))
            generalize ps.getD 1 [] = p1 at *
            have hzl5 : w.heap.size + 1 < w5.heap.size := by omega
            clear hLx
            go_wp2_with fail
            refine (atoi_any p1 _ hp1 ((HE.out.upd HU1.out).upd HU5.out)).mono ?_
            rintro e w6 ⟨⟨ev, rfl⟩, hU6⟩
            have hB6 := hU6.blk HB5.out (by simp)
            have d0 := hB6.cell 0
            have d1 := hB6.cell 1
            have h1 := hB6.frozen 1
            simp [opI] at d0 d1
            have hz6 : w1.heap.size < w6.heap.size := hB6.lt
            have HB7 := hid (hB6.set_ 1 (.int .i64 (atoiV p1)))
            have HU7 := hid ((HU5.out.trans hU6).setCell (p := ⟨w1.heap.size, 1, none⟩) (.inr (Nat.le_refl _)) (.int .i64 (atoiV p1)))
            clear hB6 hU6 c0 c1 c2 c3 c4 c5 c6 f1 f2 f3 f4 f5 f6 hL1
            go_wp2_with fail
            refine (Hopr _).out.mono ?_
            rintro e w7 ⟨rfl, hU7⟩
            have hB8 := hU7.blk HB7.out (by simp)
            have d2 := hB8.cell 2
            have h2 := hB8.frozen 2
            simp [opI] at d2
            have HB8 := hid hB8
            have HU8 := hid (HU7.out.trans hU7)
            have hz7 : w1.heap.size < w7.heap.size := hB8.lt
            clear hB8 hU7 d0 d1 h1
            go_wp2
            go_meet
            refine ⟨hid ?_, HU8.out⟩
            rw [HJ2.out]
            exact HB8.out
          · have hleni : ¬ ((1 : Int) < ps.length) := by omega
            have HJ2 := hid (HJ.out.trans (by rw [if_neg (fun h => hlen h.2)]))
            go_wp2_with fail
            refine (Hopr _).out.mono ?_
            rintro e w7 ⟨rfl, hU7⟩
            have hB8 := hU7.blk HB5.out (by simp)
            have d2 := hB8.cell 2
            have h2 := hB8.frozen 2
            simp [opI] at d2
            have HB8 := hid hB8
            have HU8 := hid (HU5.out.trans hU7)
            have hz7 : w1.heap.size < w7.heap.size := hB8.lt
            clear hB8 hU7 c0 c1 c2 c3 c4 c5 c6 f1 f2 f3 f4 f5 f6
            go_wp2
            go_meet
            refine ⟨hid ?_, HU8.out⟩
            rw [HJ2.out]
            exact HB8.out
        · by_cases k2 : kk = 2
          · subst k2
            by_cases hlen : 1 < ps.length
            · have hleni : (1 : Int) < ps.length := by omega
              have hL1 := HL5.out.cell 1
              have hLx : (ps.map strV).toArray[1]? = some (.string (bs (ps.getD 1 []))) := by
                rw [List.getD_eq_getElem?_getD, List.getElem?_eq_getElem hlen]
                simp [strV, List.getElem?_eq_getElem hlen]
              rw [hLx] at hL1
              have hp1 : (ps.getD 1 []).length ≤ 281474976710656 := by
                rw [List.getD_eq_getElem?_getD, List.getElem?_eq_getElem hlen]
                exact Nat.le_trans (Hle.out 1 hlen) (by omega)
              have HJ2 := hid (HJ.out.trans (by rw [if_pos ⟨by omega, hlen⟩]))
              generalize ps.getD 1 [] = p1 at *
              have hzl5 : w.heap.size + 1 < w5.heap.size := by omega
              clear hLx
              go_wp2_with fail
              refine (atoi_any p1 _ hp1 ((HE.out.upd HU1.out).upd HU5.out)).mono ?_
              rintro e w6 ⟨⟨ev, rfl⟩, hU6⟩
              have hB6 := hU6.blk HB5.out (by simp)
              have d0 := hB6.cell 0
              have d1 := hB6.cell 1
              have h1 := hB6.frozen 1
              simp [opI] at d0 d1
              have hz6 : w1.heap.size < w6.heap.size := hB6.lt
              have HB7 := hid (hB6.set_ 1 (.int .i64 (atoiV p1)))
              have HU7 := hid ((HU5.out.trans hU6).setCell (p := ⟨w1.heap.size, 1, none⟩) (.inr (Nat.le_refl _)) (.int .i64 (atoiV p1)))
              clear hB6 hU6 c0 c1 c2 c3 c4 c5 c6 f1 f2 f3 f4 f5 f6 hL1
              go_wp2_with fail
              refine (Hopr _).out.mono ?_
              rintro e w7 ⟨rfl, hU7⟩
              have hB8 := hU7.blk HB7.out (by simp)
              have d2 := hB8.cell 2
              have h2 := hB8.frozen 2
              simp [opI] at d2
              have HB8 := hid hB8
              have HU8 := hid (HU7.out.trans hU7)
              have hz7 : w1.heap.size < w7.heap.size := hB8.lt
              clear hB8 hU7 d0 d1 h1
              go_wp2
              go_meet
              refine ⟨hid ?_, HU8.out⟩
              rw [HJ2.out]
              exact HB8.out
            · have hleni : ¬ ((1 : Int) < ps.length) := by omega
              have HJ2 := hid (HJ.out.trans (by rw [if_neg (fun h => hlen h.2)]))
              go_wp2_with fail
              refine (Hopr _).out.mono ?_
              rintro e w7 ⟨rfl, hU7⟩
              have hB8 := hU7.blk HB5.out (by simp)
              have d2 := hB8.cell 2
              have h2 := hB8.frozen 2
              simp [opI] at d2
              have HB8 := hid hB8
              have HU8 := hid (HU5.out.trans hU7)
              have hz7 : w1.heap.size < w7.heap.size := hB8.lt
              clear hB8 hU7 c0 c1 c2 c3 c4 c5 c6 f1 f2 f3 f4 f5 f6
              go_wp2
              go_meet
              refine ⟨hid ?_, HU8.out⟩
              rw [HJ2.out]
              exact HB8.out
          · by_cases k3 : kk = 3
            · subst k3
              by_cases hlen : 1 < ps.length
              · have hleni : (1 : Int) < ps.length := by omega
                have hL1 := HL5.out.cell 1
                have hLx : (ps.map strV).toArray[1]? = some (.string (bs (ps.getD 1 []))) := by
                  rw [List.getD_eq_getElem?_getD, List.getElem?_eq_getElem hlen]
                  simp [strV, List.getElem?_eq_getElem hlen]
                rw [hLx] at hL1
                have hp1 : (ps.getD 1 []).length ≤ 281474976710656 := by
                  rw [List.getD_eq_getElem?_getD, List.getElem?_eq_getElem hlen]
                  exact Nat.le_trans (Hle.out 1 hlen) (by omega)
                have HJ2 := hid (HJ.out.trans (by rw [if_pos ⟨by omega, hlen⟩]))
                generalize ps.getD 1 [] = p1 at *
                have hzl5 : w.heap.size + 1 < w5.heap.size := by omega
                clear hLx
                go_wp2_with fail
                refine (atoi_any p1 _ hp1 ((HE.out.upd HU1.out).upd HU5.out)).mono ?_
                rintro e w6 ⟨⟨ev, rfl⟩, hU6⟩
                have hB6 := hU6.blk HB5.out (by simp)
                have d0 := hB6.cell 0
                have d1 := hB6.cell 1
                have h1 := hB6.frozen 1
                simp [opI] at d0 d1
                have hz6 : w1.heap.size < w6.heap.size := hB6.lt
                have HB7 := hid (hB6.set_ 1 (.int .i64 (atoiV p1)))
                have HU7 := hid ((HU5.out.trans hU6).setCell (p := ⟨w1.heap.size, 1, none⟩) (.inr (Nat.le_refl _)) (.int .i64 (atoiV p1)))
                clear hB6 hU6 c0 c1 c2 c3 c4 c5 c6 f1 f2 f3 f4 f5 f6 hL1
                go_wp2_with fail
                refine (Hopr _).out.mono ?_
                rintro e w7 ⟨rfl, hU7⟩
                have hB8 := hU7.blk HB7.out (by simp)
                have d2 := hB8.cell 2
                have h2 := hB8.frozen 2
                simp [opI] at d2
                have HB8 := hid hB8
                have HU8 := hid (HU7.out.trans hU7)
                have hz7 : w1.heap.size < w7.heap.size := hB8.lt
                clear hB8 hU7 d0 d1 h1
                go_wp2
                go_meet
                refine ⟨hid ?_, HU8.out⟩
                rw [HJ2.out]
                exact HB8.out
              · have hleni : ¬ ((1 : Int) < ps.length) := by omega
                have HJ2 := hid (HJ.out.trans (by rw [if_neg (fun h => hlen h.2)]))
                go_wp2_with fail
                refine (Hopr _).out.mono ?_
                rintro e w7 ⟨rfl, hU7⟩
                have hB8 := hU7.blk HB5.out (by simp)
                have d2 := hB8.cell 2
                have h2 := hB8.frozen 2
                simp [opI] at d2
                have HB8 := hid hB8
                have HU8 := hid (HU5.out.trans hU7)
                have hz7 : w1.heap.size < w7.heap.size := hB8.lt
                clear hB8 hU7 c0 c1 c2 c3 c4 c5 c6 f1 f2 f3 f4 f5 f6
                go_wp2
                go_meet
                refine ⟨hid ?_, HU8.out⟩
                rw [HJ2.out]
                exact HB8.out
            · by_cases k7 : kk = 7
              · subst k7
                by_cases hlen : 1 < ps.length
                · have hleni : (1 : Int) < ps.length := by omega
                  have hL1 := HL5.out.cell 1
                  have hLx : (ps.map strV).toArray[1]? = some (.string (bs (ps.getD 1 []))) := by
                    rw [List.getD_eq_getElem?_getD, List.getElem?_eq_getElem hlen]
                    simp [strV, List.getElem?_eq_getElem hlen]
                  rw [hLx] at hL1
                  have hp1 : (ps.getD 1 []).length ≤ 281474976710656 := by
                    rw [List.getD_eq_getElem?_getD, List.getElem?_eq_getElem hlen]
                    exact Nat.le_trans (Hle.out 1 hlen) (by omega)
                  have HJ2 := hid (HJ.out.trans (by rw [if_pos ⟨by omega, hlen⟩]))
                  generalize ps.getD 1 [] = p1 at *
                  have hzl5 : w.heap.size + 1 < w5.heap.size := by omega
                  clear hLx
                  go_wp2_with fail
                  refine (atoi_any p1 _ hp1 ((HE.out.upd HU1.out).upd HU5.out)).mono ?_
                  rintro e w6 ⟨⟨ev, rfl⟩, hU6⟩
                  have hB6 := hU6.blk HB5.out (by simp)
                  have d0 := hB6.cell 0
                  have d1 := hB6.cell 1
                  have h1 := hB6.frozen 1
                  simp [opI] at d0 d1
                  have hz6 : w1.heap.size < w6.heap.size := hB6.lt
                  have HB7 := hid (hB6.set_ 1 (.int .i64 (atoiV p1)))
                  have HU7 := hid ((HU5.out.trans hU6).setCell (p := ⟨w1.heap.size, 1, none⟩) (.inr (Nat.le_refl _)) (.int .i64 (atoiV p1)))
                  clear hB6 hU6 c0 c1 c2 c3 c4 c5 c6 f1 f2 f3 f4 f5 f6 hL1
                  go_wp2_with fail
                  refine (Hopr _).out.mono ?_
                  rintro e w7 ⟨rfl, hU7⟩
                  have hB8 := hU7.blk HB7.out (by simp)
                  have d2 := hB8.cell 2
                  have h2 := hB8.frozen 2
                  simp [opI] at d2
                  have HB8 := hid hB8
                  have HU8 := hid (HU7.out.trans hU7)
                  have hz7 : w1.heap.size < w7.heap.size := hB8.lt
                  clear hB8 hU7 d0 d1 h1
                  go_wp2
                  go_meet
                  refine ⟨hid ?_, HU8.out.setCell (p := ⟨w1.heap.size, 2, none⟩) (.inr (Nat.le_refl _)) _⟩
                  rw [HJ2.out]
                  exact HB8.out.set_ 2 (.string (bs lastP))
                · have hleni : ¬ ((1 : Int) < ps.length) := by omega
                  have HJ2 := hid (HJ.out.trans (by rw [if_neg (fun h => hlen h.2)]))
                  go_wp2_with fail
                  refine (Hopr _).out.mono ?_
                  rintro e w7 ⟨rfl, hU7⟩
                  have hB8 := hU7.blk HB5.out (by simp)
                  have d2 := hB8.cell 2
                  have h2 := hB8.frozen 2
                  simp [opI] at d2
                  have HB8 := hid hB8
                  have HU8 := hid (HU5.out.trans hU7)
                  have hz7 : w1.heap.size < w7.heap.size := hB8.lt
                  clear hB8 hU7 c0 c1 c2 c3 c4 c5 c6 f1 f2 f3 f4 f5 f6
                  go_wp2
                  go_meet
                  refine ⟨hid ?_, HU8.out.setCell (p := ⟨w1.heap.size, 2, none⟩) (.inr (Nat.le_refl _)) _⟩
                  rw [HJ2.out]
                  exact HB8.out.set_ 2 (.string (bs lastP))
              · by_cases k4 : kk = 4
                · subst k4
                  have HJ2 := hid (HJ.out.trans (by rw [if_neg (by omega), if_pos (by omega), if_neg (by omega)]))
                  go_wp2
                  go_meet
                  refine ⟨hid ?_, HU5.out.setCell (p := ⟨w1.heap.size, 2, none⟩) (.inr (Nat.le_refl _)) _⟩
                  rw [HJ2.out]
                  exact HB5.out.set_ 2 (.string (bs lastP))
                · by_cases k5 : kk = 5
                  · subst k5
                    have HJ2 := hid (HJ.out.trans (by rw [if_neg (by omega), if_pos (by omega), if_neg (by omega)]))
                    go_wp2
                    go_meet
                    refine ⟨hid ?_, HU5.out.setCell (p := ⟨w1.heap.size, 2, none⟩) (.inr (Nat.le_refl _)) _⟩
                    rw [HJ2.out]
                    exact HB5.out.set_ 2 (.string (bs lastP))
                  · by_cases k6 : kk = 6
                    · subst k6
                      have HJ2 := hid (HJ.out.trans (by rw [if_neg (by omega), if_pos (by omega), if_neg (by omega)]))
                      go_wp2
                      go_meet
                      refine ⟨hid ?_, HU5.out.setCell (p := ⟨w1.heap.size, 2, none⟩) (.inr (Nat.le_refl _)) _⟩
                      rw [HJ2.out]
                      exact HB5.out.set_ 2 (.string (bs lastP))
                    · by_cases k8 : kk = 8
                      · subst k8
                        have HJ2 := hid (HJ.out.trans (by rw [if_neg (by omega), if_neg (by omega), if_pos rfl]))
                        have Hrf := fun w hm => hid (parseRefV_any lastP w (by omega) hm)
                        obtain ⟨ro, hro⟩ : ∃ ro, refOut lastP = ro := ⟨_, rfl⟩
                        rw [hro] at Hrf HJ2
                        clear hro
                        obtain ⟨⟨ic, rc, rn, rd⟩, re⟩ := ro
                        unfold RefL.v at Hrf
                        simp only at Hrf
                        go_wp2_with fail
                        refine (Hrf _ ((HR.out.upd HU1.out).upd HU5.out).max).out.mono ?_
                        rintro e w6 ⟨rfl, hU6⟩
                        have hB6 := hU6.blk HB5.out (by simp)
                        have d3 := hB6.cell 3
                        have d4 := hB6.cell 4
                        have d5 := hB6.cell 5
                        have d6 := hB6.cell 6
                        have h3 := hB6.frozen 3
                        have h4 := hB6.frozen 4
                        have h5 := hB6.frozen 5
                        have h6 := hB6.frozen 6
                        simp [opI] at d3 d4 d5 d6
                        have hz6 : w1.heap.size < w6.heap.size := hB6.lt
                        have HB6 := hid hB6
                        have HU6 := hid (HU5.out.trans hU6)
                        clear hB6 hU6 c0 c1 c2 c3 c4 c5 c6 f1 f2 f3 f4 f5 f6
                        go_wp2
                        go_meet
                        refine ⟨hid ?_, (((HU6.out.setCell (.inr (Nat.le_refl _)) _).setCell (.inr (Nat.le_refl _)) _).setCell (.inr (Nat.le_refl _)) _).setCell (.inr (Nat.le_refl _)) _⟩
                        rw [HJ2.out]
                        exact (((HB6.out.set_ 3 (.bool ic)).set_ 4 (.string (bs rc))).set_ 5 (.string (bs rn))).set_ 6 (.string (bs rd))
                      · have n1 : (kk == 1) = false := by simpa using k1
                        have n2 : (kk == 2) = false := by simpa using k2
                        have n3 : (kk == 3) = false := by simpa using k3
                        have n7 : (kk == 7) = false := by simpa using k7
                        have n4 : (kk == 4) = false := by simpa using k4
                        have n5 : (kk == 5) = false := by simpa using k5
                        have n6 : (kk == 6) = false := by simpa using k6
                        have n8 : (kk == 8) = false := by simpa using k8
                        have HJ2 := hid (HJ.out.trans (by rw [if_neg (by omega), if_neg (by omega), if_neg (by omega)]))
                        go_wp2
                        go_meet
                        refine ⟨hid ?_, HU5.out⟩
                        rw [HJ2.out]
                        exact HB5.out
      case rest =>
        obtain ⟨hBJ, hUJ⟩ := hcut
        obtain ⟨jo, jn, jt, ⟨ic, rc, rn, rd⟩⟩ := J
        unfold InstL.v InstL.cells at Hpr
        unfold InstL.cells at hBJ
        simp only at Hpr hBJ
        obtain ⟨ok, hok⟩ : ∃ b, (InstL.mk jo jn jt ⟨ic, rc, rn, rd⟩).ok = b := ⟨_, rfl⟩
        rw [hok] at Hpr HO
        obtain ⟨tx, htx⟩ : ∃ t, (InstL.mk jo jn jt ⟨ic, rc, rn, rd⟩).text = t := ⟨_, rfl⟩
        rw [htx] at Hpr HO
        clear hok htx HJ HFN
        have c0 := hBJ.out.cell 0
        have c1 := hBJ.out.cell 1
        have c2 := hBJ.out.cell 2
        have c3 := hBJ.out.cell 3
        have c4 := hBJ.out.cell 4
        have c5 := hBJ.out.cell 5
        have c6 := hBJ.out.cell 6
        simp at c0 c1 c2 c3 c4 c5 c6
        have hzc : w1.heap.size < wc.heap.size := hBJ.out.lt
        have HUJ := hid hUJ
        clear hUJ
        go_wp2_with fail
        refine (Hpr _ ((HR.out.upd HU1.out).upd HUJ.out)).out.mono ?_
        rintro e w8 ⟨rfl, hU8⟩
        have HU8 := hid (HUJ.out.trans hU8)
        have hBK := hU8.blk hBJ.out (by simp)
        have hB2 := HU8.out.blk HB2.out (by simp)
        have HB28 := hid hB2
        have HBK := hid hBK
        have hz8 : w1.heap.size < w8.heap.size := hBK.lt
        have hz8' : w.heap.size < w8.heap.size := by omega
        have HUW := hid (HU1.out.trans HU8.out)
        clear hU8 hBK hB2 c0 c1 c2 c3 c4 c5 c6
        have hkey := bs_beq tx l
        cases ok with
        | false =>
          have HP : Hid (PO = (⟨0, 0, [], noRefL⟩, 4)) := hid (by rw [HO.out]; rfl)
          clear hkey HO
          simp only [errIf]
          go_upto_region 27 with (fail)
          apply wp_region_lit
          refine wpList_build rfl 90 #[] rfl (by kernel_rfl) ?_
          refine wpList_store_row rfl 90 _ _ rfl w.heap.size zeroI (by kernel_rfl) (by kernel_rfl) 90 zeroI HB28.out sizeInst rfl (by kernel_rfl) ?_
          have HB9 := hid (setRow_blk HB28.out zeroI)
          have HU9 := hid (setRow_upd HUW.out (Nat.le_refl _) zeroI)
          revert HB9 HU9
          generalize w8.setRow w.heap.size zeroI = w9
          intro HB9 HU9
          have g0 := HB9.out.cell 0
          have g1 := HB9.out.cell 1
          have g2 := HB9.out.cell 2
          have g3 := HB9.out.cell 3
          have g4 := HB9.out.cell 4
          have g5 := HB9.out.cell 5
          have g6 := HB9.out.cell 6
          simp [zeroI] at g0 g1 g2 g3 g4 g5 g6
          go_wp2_with fail
          refine bodyPost_ret (v := .tuple #[.agg #[.int .i64 0, .int .i64 0, .string ⟨#[]⟩, .bool false, .string ⟨#[]⟩, .string ⟨#[]⟩, .string ⟨#[]⟩], .int .i64 4]) (by simp [results, Tryz.results215, go_sem, g0, g1, g2, g3, g4, g5, g6]) rfl ?_
          rw [HP.out]
          exact ⟨rfl, HU9.out⟩
        | true =>
          simp only [errIf, if_true]
          by_cases htl : tx = l
          · have HP : Hid (PO = (⟨jo, jn, jt, ⟨ic, rc, rn, rd⟩⟩, 0)) := hid (by rw [HO.out, decide_eq_true htl]; rfl)
            rw [decide_eq_true htl] at hkey
            clear HO htl
            go_upto_region 28 with (fail)
            apply wp_region_lit
            obtain ⟨fI, hfI⟩ := undInst
            refine wpList_load_row rfl 90 _ rfl w1.heap.size (by kernel_rfl) 90 _ _ (.struct fI) HBK.out hfI rfl (by kernel_rfl) ?_
            refine wpList_store_row rfl 90 _ _ rfl w.heap.size #[.int .i64 jo, .int .i64 jn, .string (bs jt), .bool ic, .string (bs rc), .string (bs rn), .string (bs rd)] (by kernel_rfl) (by kernel_rfl) 90 zeroI HB28.out sizeInst rfl (by kernel_rfl) ?_
            have HB9 := hid (setRow_blk HB28.out (#[.int .i64 jo, .int .i64 jn, .string (bs jt), .bool ic, .string (bs rc), .string (bs rn), .string (bs rd)] : Array Value))
            have HU9 := hid (setRow_upd HUW.out (Nat.le_refl _) (#[.int .i64 jo, .int .i64 jn, .string (bs jt), .bool ic, .string (bs rc), .string (bs rn), .string (bs rd)] : Array Value))
            revert HB9 HU9
            generalize w8.setRow w.heap.size _ = w9
            intro HB9 HU9
            have g0 := HB9.out.cell 0
            have g1 := HB9.out.cell 1
            have g2 := HB9.out.cell 2
            have g3 := HB9.out.cell 3
            have g4 := HB9.out.cell 4
            have g5 := HB9.out.cell 5
            have g6 := HB9.out.cell 6
            simp at g0 g1 g2 g3 g4 g5 g6
            go_wp2_with fail
            refine bodyPost_ret (v := .tuple #[.agg #[.int .i64 jo, .int .i64 jn, .string (bs jt), .bool ic, .string (bs rc), .string (bs rn), .string (bs rd)], .int .i64 0]) (by simp [results, Tryz.results215, go_sem, g0, g1, g2, g3, g4, g5, g6]) rfl ?_
            rw [HP.out]
            exact ⟨rfl, HU9.out⟩
          · have HP : Hid (PO = (⟨0, 0, [], noRefL⟩, 4)) := hid (by rw [HO.out, decide_eq_false htl]; rfl)
            rw [decide_eq_false htl] at hkey
            clear HO htl
            go_upto_region 27 with (fail)
            apply wp_region_lit
            refine wpList_build rfl 90 #[] rfl (by kernel_rfl) ?_
            refine wpList_store_row rfl 90 _ _ rfl w.heap.size zeroI (by kernel_rfl) (by kernel_rfl) 90 zeroI HB28.out sizeInst rfl (by kernel_rfl) ?_
            have HB9 := hid (setRow_blk HB28.out zeroI)
            have HU9 := hid (setRow_upd HUW.out (Nat.le_refl _) zeroI)
            revert HB9 HU9
            generalize w8.setRow w.heap.size zeroI = w9
            intro HB9 HU9
            have g0 := HB9.out.cell 0
            have g1 := HB9.out.cell 1
            have g2 := HB9.out.cell 2
            have g3 := HB9.out.cell 3
            have g4 := HB9.out.cell 4
            have g5 := HB9.out.cell 5
            have g6 := HB9.out.cell 6
            simp [zeroI] at g0 g1 g2 g3 g4 g5 g6
            go_wp2_with fail
            refine bodyPost_ret (v := .tuple #[.agg #[.int .i64 0, .int .i64 0, .string ⟨#[]⟩, .bool false, .string ⟨#[]⟩, .string ⟨#[]⟩, .string ⟨#[]⟩], .int .i64 4]) (by simp [results, Tryz.results215, go_sem, g0, g1, g2, g3, g4, g5, g6]) rfl ?_
            rw [HP.out]
            exact ⟨rfl, HU9.out⟩
end Go.Proofs.YtfpdeiefkimaaaaGreatDoor
