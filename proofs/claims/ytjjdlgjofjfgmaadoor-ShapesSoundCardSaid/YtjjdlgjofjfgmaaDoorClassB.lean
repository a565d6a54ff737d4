/-
  types.Args, shapes.Words, walked.
-/
import Derived.Test.YtjjdlgjofjfgmaaDoorClassA
import Derived.Test.YtjjdlgjofjfgmaaDoorFlagsA
set_option linter.unusedSimpArgs false
set_option linter.unusedVariables false
namespace Go.Proofs.YtjjdlgjofjfgmaaDoor
open Go.RowKit

set_option maxHeartbeats 1000000 in
theorem args_any (ds : List UInt8) (w : World) (hd : ds.length ≤ 9223372036854775807) (hm : MaxLenAt w) :
    Calls Tryd.prog 63 #[.string (bs ds)] w fun e w' => e = .returned (.tuple #[.int .i64 (descL ds).1, .int .i64 (descL ds).2]) ∧ Upd w w' [] := by
  have Hb := hid (parseDesc_any ds w (by omega) hm)
  generalize descL ds = q at Hb ⊢
  obtain ⟨qn, qe⟩ := q
  simp only
  go_enter Tryd.func63, Tryd.ntmps63
  go_wp2_with fail
  refine Hb.out.mono ?_
  rintro e w2 ⟨⟨A, cap, vd, d, nm', rfl⟩, hU3⟩
  go_wp2
  exact bodyPost_ret (v := .tuple #[.int .i64 qn, .int .i64 qe]) (by simp [results, Tryd.results63, go_sem]) rfl ⟨rfl, hU3.alloc _⟩

/-- How many words a method's arguments take: with its receiver. -/
def wordsL (ds : List UInt8) (fl : Int) : Int × Int :=
  if (descL ds).2 = 0 then (((descL ds).1 : Int) + (if bits BinOp.and IntKind.i64 fl 8 == 0 then 1 else 0), 0) else (0, 1)

set_option maxHeartbeats 1000000 in
theorem words5_any (m : MethL) (w : World) (hd : m.ds.length ≤ 9223372036854775807) (hn : (descL m.ds).1 ≤ 1000000) (hm : MaxLenAt w) :
    Calls Tryd.prog 31 #[m.v] w fun e w' => e = .returned (.tuple #[.int .i64 (wordsL m.ds m.fl).1, .int .i64 (wordsL m.ds m.fl).2]) ∧ Upd w w' [] := by
  obtain ⟨mn, ds, fl, lo, st, A, cap, code⟩ := m
  have Hb := fun w hm => hid (args_any ds w (by exact hd) hm)
  unfold MethL.v MethL.cells wordsL
  simp only at hd hn ⊢
  generalize descL ds = q at Hb hn ⊢
  obtain ⟨qn, qe⟩ := q
  have hU : Upd w (w.alloc (.cells #[.string (bs mn), .string (bs ds), .int .i64 fl, .int .i64 lo, .int .i64 st, .slice A code.length cap] 52)) [] := (Upd.refl _ _).alloc _
  simp only at hn Hb ⊢
  have hw1 : wrap64 ((qn : Int) + 1) = (qn : Int) + 1 := by unfold wrap64; omega
  by_cases he : qe = 0
  · subst he
    obtain ⟨b, hb⟩ : ∃ b, (bits BinOp.and IntKind.i64 fl 8 == 0) = b := ⟨_, rfl⟩
    rw [hb]
    cases b
    all_goals
      go_enter Tryd.func31, Tryd.ntmps31
      go_wp2_with fail
      refine (Hb _ (hm.upd hU (by simp))).out.mono ?_
      rintro e w1 ⟨rfl, hU1⟩
      obtain ⟨hc1, hf1, hz1⟩ := hU1.cells
      have hz1' : w.heap.size < w1.heap.size := by simp at hz1; omega
      go_wp2
      refine bodyPost_ret (v := .tuple #[.int .i64 _, .int .i64 _]) (by simp [results, Tryd.results31, go_sem]; exact ⟨rfl, rfl⟩) rfl ⟨by simp, hU.trans hU1⟩
  · have heb : (qe == 0) = false := by simpa using he
    go_enter Tryd.func31, Tryd.ntmps31
    go_wp2_with fail
    refine (Hb _ (hm.upd hU (by simp))).out.mono ?_
    rintro e w1 ⟨rfl, hU1⟩
    go_wp2
    refine bodyPost_ret (v := .tuple #[.int .i64 0, .int .i64 1]) (by simp [results, Tryd.results31, go_sem]) rfl ⟨by simp [he], hU.trans hU1⟩
end Go.Proofs.YtjjdlgjofjfgmaaDoor
