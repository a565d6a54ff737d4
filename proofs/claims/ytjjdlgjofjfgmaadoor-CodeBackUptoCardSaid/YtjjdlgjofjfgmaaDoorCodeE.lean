/-
  Package code, walked: Print.
-/
import Derived.Test.YtjjdlgjofjfgmaaDoorCodeD
import Derived.Test.YtjjdlgjofjfgmaaDoorRefB
import Derived.Deep.RegionWith
import Derived.Lib.QuietBelow
set_option linter.unusedSimpArgs false
set_option linter.unusedVariables false
namespace Go.Proofs.YtjjdlgjofjfgmaaDoor
open Go.RowKit

def Tab10 (w : World) : Prop := Lib.TabIs Tryd.prog w "internal/strconv.uint64pow10" .u64 Lib.pow10Tab
/-- The package-level variables that the library's functions read lie as the text lays them. -/
structure Rdy (w : World) : Prop where
  max : MaxLenAt w
  tab : Tab10 w
theorem Tab10.upd {w w' : World} (h : Tab10 w) (u : Upd w w' []) : Tab10 w' := by
  unfold Tab10 Lib.TabIs World.var? at h ⊢
  cases hg : Tryd.prog.globalNamed "internal/strconv.uint64pow10" with
  | none => rw [hg] at h; simp at h
  | some g =>
    rw [hg] at h
    simp only [Option.bind_some] at h ⊢
    have hlt : g < w.heap.size := by
      rcases Nat.lt_or_ge g w.heap.size with hl | hl
      · exact hl
      · rw [Array.getElem?_eq_none hl] at h; simp at h
    rw [u.block g hlt (by simp)]
    exact h
theorem Rdy.upd {w w' : World} (h : Rdy w) (u : Upd w w' []) : Rdy w' := ⟨h.max.upd u (by simp), h.tab.upd u⟩

theorem own_of_blk {w : World} {g : Nat} {t : TypeId} {cs : Array Value} (h : Blk w g t cs) (hz : cs.size ≤ maxLen) : w.ownsRow 0 t 1 (.slice (some ⟨g, 0, none⟩) cs.size cs.size) cs.size cs.toList :=
  ⟨by simp, .inr ⟨g, cs.size, cs, rfl, by omega, h, Nat.le_refl _, hz, by simp, by rw [Nat.mul_one]; exact List.take_of_length_le (by simp)⟩⟩

theorem grow_below (w : World) (k : Nat) (os : Array Obj) : Upd w (Go.Sort.grow (w.drewN k) os) [] :=
  ⟨rfl, rfl, rfl, by show w.heap.size ≤ (w.heap ++ os).size; simp, fun i hi _ => by show (w.heap ++ os)[i]? = _; rw [Array.getElem?_append_left hi]⟩

theorem itoa_any (n : Int) (w : World) (h0 : -9223372036854775808 ≤ n) (h1 : n ≤ 9223372036854775807) (ht : Tab10 w) : Calls Tryd.prog 45 #[.int .i64 n] w fun e w' => e = .returned (.string (bs (Lib.itoa n))) ∧ Upd w w' [] :=
  (Tryd.strconv_Itoa n h0 h1 w ht).mono fun _ _ ⟨h, k, os, hw⟩ => ⟨h, by rw [hw]; exact grow_below w k os⟩

theorem join_any (g n cap : Nat) (ps : List (List UInt8)) (w : World) (h : w.ownsRow 0 9 1 (.slice (some ⟨g, 0, none⟩) n cap) n (ps.map strV)) (hn : n = ps.length) (hl : (Lib.join ps [32]).length ≤ 140737488355328) (hp : ps.length ≤ 1000000) :
    Calls Tryd.prog 46 #[.slice (some ⟨g, 0, none⟩) n cap, .string ⟨#[32]⟩] w fun e w' => e = .returned (.string (bs (Lib.join ps [32]))) ∧ Upd w w' [] := by
  subst hn
  have hc : ps.length ≤ cap ∧ g < w.heap.size := by
    rcases h.2 with ⟨h1, _⟩ | ⟨g', cap', cur, hv, hb, hg, h1, h2, h3, h4⟩
    · cases h1
    · injection hv with hv1 hv2 hv3
      injection hv1 with hv1
      injection hv1 with hv1
      subst hv1 hv3
      exact ⟨h1, (Array.getElem?_eq_some_iff.1 hg).1⟩
  have e : (ps.map bs).map (fun p => p.data.toList) = ps := by simp [bs_data, Function.comp_def]
  have := Tryd.strings_Join g 0 cap (ps.map bs) ⟨#[32]⟩ w (fun j x hx => by
    have hj : j < ps.length := by
      have := (List.getElem?_eq_some_iff.1 hx).1
      simpa using this
    rw [Nat.zero_add, own_cell h j hj]
    simp only [List.getElem?_map] at hx ⊢
    rw [List.getElem?_eq_getElem hj] at hx ⊢
    simp only [Option.map_some, Option.some.injEq] at hx ⊢
    rw [← hx]
    rfl) hc.2 (by simp; omega) (by simpa using hc.1) (by rw [e]; exact hl)
  rw [e, List.length_map] at this
  exact this.mono fun _ _ h => ⟨h.1, Upd.of_below h.2 []⟩

/-- The words of a sound instruction's text. -/
def InstL.parts (i : InstL) : List (List UInt8) :=
  wordL i.op :: ((if kindL i.op = 1 ∨ kindL i.op = 2 ∨ kindL i.op = 3 ∨ kindL i.op = 7 then [Lib.itoa i.n] else if kindL i.op = 8 then [i.ref.text] else []) ++ if i.ty = [] then [] else [i.ty])
def InstL.text (i : InstL) : List UInt8 := Lib.join i.parts [32]
def printPost (i : InstL) (w : World) (e : Ending) (w' : World) : Prop :=
  e = .returned (.tuple #[.string (bs (if i.ok then i.text else [])), .int .i64 (errIf i.ok)]) ∧ Upd w w' []
def InstL.num (i : InstL) : Prop := -9223372036854775808 ≤ i.n ∧ i.n ≤ 9223372036854775807

theorem splitL_nil (c : UInt8) : splitL c [] = [[]] := rfl
theorem validB_nil : validB [] = false := by decide
theorem parseL_nil : (parseL []).2.2 = 4 := by decide
theorem parseRefL_nil : (parseRefL []).2.2 = 4 := by decide
theorem InstL.ok_fine {i : InstL} (h : i.ok = true) : i.bare = i ∧ i.fine = true := by
  unfold InstL.ok at h
  simpa using h

theorem word_le : ∀ op, (wordL op).length ≤ 20 := by
  intro op
  unfold wordL
  generalize op.toNat = n
  by_cases h : n < 41
  · have : ∀ n : Fin 41, (specT.getD n.val ([], 0)).1.length ≤ 20 := by decide
    exact this ⟨n, h⟩
  · have hl : specT.length = 41 := rfl
    rw [List.getD_eq_getElem?_getD, List.getElem?_eq_none (by omega)]
    decide
theorem RefL.text_le {r : RefL} (h : r.ok = true) : r.text.length ≤ 4061 := by
  obtain ⟨h1, h2, h3⟩ := RefL.ok_le h
  unfold RefL.text
  split <;> simp <;> omega

/-- What the kinds of a sound instruction leave. -/
theorem InstL.ok_ty {i : InstL} (h : i.ok = true) : i.ty.length ≤ 2000 ∧ (i.ty = [] ↔ ¬ (kindL i.op = 4 ∨ kindL i.op = 5 ∨ kindL i.op = 6 ∨ kindL i.op = 7)) ∧ kindL i.op ≠ -1 ∧ (kindL i.op = 8 → i.ref.ok = true) := by
  obtain ⟨h1, h2⟩ := InstL.ok_fine h
  obtain ⟨op, n, tx, r⟩ := i
  unfold InstL.bare at h1
  unfold InstL.fine at h2
  simp only at h1 h2 ⊢
  rcases kindL_cases op with hk | hk | hk | hk | hk | hk | hk | hk | hk | hk
  all_goals
    rw [hk] at h1 h2
    simp only [hk]
    simp at h1 h2
    try simp
  all_goals first
    | done
    | (have ht : tx = [] := by first | exact h1.2 | exact h1.2.1 | exact h1.1 | exact h1.2.1.symm | exact h1.1.symm
       subst ht
       simp_all
       done)
    | (have hl := validB_le h2
       refine ⟨by omega, ?_⟩
       rintro rfl
       rw [validB_nil] at h2
       cases h2)
    | (have hl := parseRefL_le h2
       refine ⟨by omega, ?_⟩
       rintro rfl
       rw [parseRefL_nil] at h2
       cases h2)
    | (have hl := parseL_le h2.1
       refine ⟨by omega, ?_⟩
       rintro rfl
       rw [parseL_nil] at h2
       cases h2.1)
    | (have hl := parseRefL_le h2.1
       refine ⟨by omega, ?_⟩
       rintro rfl
       rw [parseRefL_nil] at h2
       cases h2.1)
    | trace_state
end Go.Proofs.YtjjdlgjofjfgmaaDoor
