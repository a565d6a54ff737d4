/-
  code.Parse: what it reads; Split at blanks; the plain laws.
-/
import Derived.Test.YtjjdlgjofjfgmaaDoorRefsV
import Derived.Test.YtjjdlgjofjfgmaaDoorAtoi
import Derived.Test.YtjjdlgjofjfgmaaDoorCodeF
set_option linter.unusedSimpArgs false
set_option linter.unusedVariables false
namespace Go.Proofs.YtjjdlgjofjfgmaaDoor
open Go.RowKit

/-- Split at blanks. -/
theorem split32_any (l : List UInt8) (w : World) (hl : l.length < 4294967281) (hm : MaxLenAt w) :
    Calls Tryd.prog 66 #[.string (bs l), .string ⟨#[32]⟩] w fun e w' => e = .returned (.slice (some ⟨w.heap.size, 0, none⟩) (splitL 32 l).length (splitL 32 l).length) ∧ w' = w.alloc (.cells ((splitL 32 l).map strV).toArray 9) := by
  obtain ⟨m, hm⟩ := hm
  have hc := Tryd.strings_Split (bs l) ⟨#[32]⟩ m w (by rw [bs_size]; exact hl) hm (by decide)
  have h1 := Lib.splitB_data ⟨#[32]⟩ 0 (Lib.countB (bs l) ⟨#[32]⟩) (bs l)
  have h2 : Lib.splitK [32] 0 (Lib.countB (bs l) ⟨#[32]⟩) (bs l).data.toList = splitL 32 (bs l).data.toList := split_one 32 (bs l).data.toList
  rw [show ((⟨#[32]⟩ : ByteArray).data.toList) = [32] from rfl, h2] at h1
  have h3 : (Lib.splitB ⟨#[32]⟩ 0 (Lib.countB (bs l) ⟨#[32]⟩) (bs l)).length = Lib.countB (bs l) ⟨#[32]⟩ + 1 := by
    have := congrArg List.length h1
    rw [List.length_map, splitL_length] at this
    rw [this]
    congr 1
    exact (count_one 32 (bs l).data.toList).symm
  rw [← h3] at hc
  rw [bs_data] at h1
  generalize Lib.splitB ⟨#[32]⟩ 0 (Lib.countB (bs l) ⟨#[32]⟩) (bs l) = ps at hc h1
  have h4 : ps.length = (splitL 32 l).length := by rw [← h1, List.length_map]
  have h5 : ps.map Value.string = (splitL 32 l).map strV := by
    rw [← h1, List.map_map]
    refine List.map_congr_left fun p _ => ?_
    simp only [Function.comp, strV, bs_of]
  rw [h4, h5] at hc
  exact hc

/-- The last instruction among the first k whose word this is; 0, if there is none. -/
def opL (wd : List UInt8) : Nat → Nat
  | 0 => 0
  | k + 1 => if 0 < k ∧ wordL k = wd then k else opL wd k
def opN (wd : List UInt8) : Nat := opL wd 41
theorem opL_le (wd : List UInt8) : ∀ k, opL wd k ≤ k - 1
  | 0 => by simp [opL]
  | k + 1 => by
    have := opL_le wd k
    unfold opL
    split <;> omega
theorem opN_le (wd : List UInt8) : opN wd ≤ 40 := opL_le wd 41
theorem opN_word : ∀ o : Fin 41, 1 ≤ o.val → opN (wordL (o.val : Int)) = o.val := by decide +kernel

/-- What Parse puts together out of a line's words. -/
def parseJ (l : List UInt8) : InstL :=
  let ps := splitL 32 l
  let op := opN (ps.headD [])
  let k := kindL op
  ⟨op, if (k = 1 ∨ k = 2 ∨ k = 3 ∨ k = 7) ∧ 1 < ps.length then atoiV (ps.getD 1 []) else 0, if k = 4 ∨ k = 5 ∨ k = 6 ∨ k = 7 then ps.getLastD [] else [], if k = 8 then (refOut (ps.getLastD [])).1 else noRefL⟩
/-- The instruction that a line writes, and the error. -/
def parseOut (l : List UInt8) : InstL × Int := if (parseJ l).ok && decide ((parseJ l).text = l) then (parseJ l, 0) else (⟨0, 0, [], noRefL⟩, 4)

theorem splitL_lens (l : List UInt8) (hl : l.length ≤ 9000000000000) : (∀ p, p ∈ splitL 32 l → p.length ≤ 9000000000000) ∧ (splitL 32 l) ≠ [] := ⟨fun p hp => Nat.le_trans (splitL_le 32 l p hp) hl, splitL_ne 32 l⟩
theorem getLastD_mem {α : Type} (d : α) : ∀ (l : List α), l ≠ [] → l.getLastD d ∈ l
  | [], h => absurd rfl h
  | a :: t, _ => by
    rw [List.getLastD_cons]
    cases t with
    | nil => simp
    | cons b r => exact List.mem_cons_of_mem _ (by
        have := getLastD_mem a (b :: r) (by simp)
        simpa using this)
theorem parseJ_fit (l : List UInt8) (hl : l.length ≤ 9000000000000) : (parseJ l).fit ∧ (parseJ l).num := by
  obtain ⟨h1, h2⟩ := splitL_lens l hl
  have h3 := h1 _ (getLastD_mem [] _ h2)
  unfold parseJ
  simp only
  refine ⟨⟨?_, ?_⟩, ?_⟩
  · simp only
    split
    · omega
    · simp
  · simp only
    split
    · exact refOut_fit _ (by omega)
    · simp [RefL.fit, noRefL]
  · unfold InstL.num
    simp only
    split
    · exact atoiV_bd _
    · omega
end Go.Proofs.YtjjdlgjofjfgmaaDoor
