/-
 The document's CheckMethod, text, ClassText, MethodText, walked. (Printed by gen_flagsT.py.)
-/
import Derived.Test.YtjjdlgjofjfgmaaGreatDoorKA
set_option linter.unusedSimpArgs false
set_option linter.unusedVariables false
namespace Go.Proofs.YtjjdlgjofjfgmaaGreatDoor
open Go.RowKit
set_option maxHeartbeats 8000000 in
theorem checkMethodR_any (f : Int) (iface : Bool) (nm : List UInt8) (w : World) :
  Calls Tryz.prog 86 #[.int .i64 f, .bool iface, .string (bs nm)] w fun e w' => e = .returned (.int .i64 (errIf (methodRB f iface (decide (nm = initB))))) ∧ Upd w w' [] := by
 unfold methodRB
 have Hk := fun g w hB => hid (knownM_any f g w hB)
 obtain ⟨b0, h0⟩ : ∃ b, decide (knownL f mthF = f) = b := ⟨_, rfl⟩
 have hk0 : (knownL f mthF != f) = !b0 := by rw [← h0, Bool.eq_iff_iff]; simp
 rw [h0]
 have g1 : (bits BinOp.and IntKind.i64 f 1 != 0) = anyF f 1 := rfl
 have g2 : (bits BinOp.and IntKind.i64 f 2 != 0) = anyF f 2 := rfl
 have g4 : (bits BinOp.and IntKind.i64 f 4 != 0) = anyF f 4 := rfl
 have g8 : (bits BinOp.and IntKind.i64 f 8 != 0) = anyF f 8 := rfl
 have g16 : (bits BinOp.and IntKind.i64 f 16 != 0) = anyF f 16 := rfl
 have g1024 : (bits BinOp.and IntKind.i64 f 1024 != 0) = anyF f 1024 := rfl
 have h7 : ((bs nm).toList == [60, 105, 110, 105, 116, 62]) = decide (nm = initB) := by
  rw [bs_toList, Bool.eq_iff_iff, decide_eq_true_eq]
  simp [initB]
 generalize knownL f mthF = kn at Hk hk0
 clear h0
 generalize decide (nm = initB) = b7 at *
 generalize anyF f 1 = b1 at *
 generalize anyF f 2 = b2 at *
 generalize anyF f 4 = b4 at *
 generalize anyF f 8 = b8 at *
 generalize anyF f 16 = b16 at *
 generalize anyF f 1024 = b1024 at *
 cases b0 with
 | false =>
  clear g1 g2 g4 g8 g16 g1024 h7
  go_enter Tryz.func86, Tryz.ntmps86
  go_wp2_with (first | (go_at_call 83; (refine (Hk _ _ (by exact Blk.new_at (by simp))).out.mono ?_); rintro e w1 ⟨rfl, rfl⟩) | go_in)
  go_ret
  exact ⟨by simp [errIf, cnt3], (Upd.refl _ _).alloc _⟩
 | true =>
  cases b1 <;> cases b2 <;> cases b4
  ·cases b1024 <;> cases b8 <;> cases b16 <;> cases iface <;> cases b7
   all_goals
    go_enter Tryz.func86, Tryz.ntmps86
    go_wp2_with (first | (go_at_call 83; (refine (Hk _ _ (by exact Blk.new_at (by simp))).out.mono ?_); rintro e w1 ⟨rfl, rfl⟩) | go_in)
    go_ret
    exact ⟨by simp [errIf, cnt3], (Upd.refl _ _).alloc _⟩
  ·cases b1024 <;> cases b8 <;> cases b16 <;> cases iface <;> cases b7
   all_goals
    go_enter Tryz.func86, Tryz.ntmps86
    go_wp2_with (first | (go_at_call 83; (refine (Hk _ _ (by exact Blk.new_at (by simp))).out.mono ?_); rintro e w1 ⟨rfl, rfl⟩) | go_in)
    go_ret
    exact ⟨by simp [errIf, cnt3], (Upd.refl _ _).alloc _⟩
  ·cases b1024 <;> cases b8 <;> cases b16 <;> cases iface <;> cases b7
   all_goals
    go_enter Tryz.func86, Tryz.ntmps86
    go_wp2_with (first | (go_at_call 83; (refine (Hk _ _ (by exact Blk.new_at (by simp))).out.mono ?_); rintro e w1 ⟨rfl, rfl⟩) | go_in)
    go_ret
    exact ⟨by simp [errIf, cnt3], (Upd.refl _ _).alloc _⟩
  ·clear g8 g16 g1024 h7
   go_enter Tryz.func86, Tryz.ntmps86
   go_wp2_with (first | (go_at_call 83; (refine (Hk _ _ (by exact Blk.new_at (by simp))).out.mono ?_); rintro e w1 ⟨rfl, rfl⟩) | go_in)
   go_ret
   exact ⟨by simp [errIf, cnt3], (Upd.refl _ _).alloc _⟩
  ·cases b1024 <;> cases b8 <;> cases b16 <;> cases iface <;> cases b7
   all_goals
    go_enter Tryz.func86, Tryz.ntmps86
    go_wp2_with (first | (go_at_call 83; (refine (Hk _ _ (by exact Blk.new_at (by simp))).out.mono ?_); rintro e w1 ⟨rfl, rfl⟩) | go_in)
    go_ret
    exact ⟨by simp [errIf, cnt3], (Upd.refl _ _).alloc _⟩
  ·clear g8 g16 g1024 h7
   go_enter Tryz.func86, Tryz.ntmps86
   go_wp2_with (first | (go_at_call 83; (refine (Hk _ _ (by exact Blk.new_at (by simp))).out.mono ?_); rintro e w1 ⟨rfl, rfl⟩) | go_in)
   go_ret
   exact ⟨by simp [errIf, cnt3], (Upd.refl _ _).alloc _⟩
  ·clear g8 g16 g1024 h7
   go_enter Tryz.func86, Tryz.ntmps86
   go_wp2_with (first | (go_at_call 83; (refine (Hk _ _ (by exact Blk.new_at (by simp))).out.mono ?_); rintro e w1 ⟨rfl, rfl⟩) | go_in)
   go_ret
   exact ⟨by simp [errIf, cnt3], (Upd.refl _ _).alloc _⟩
  ·clear g8 g16 g1024 h7
   go_enter Tryz.func86, Tryz.ntmps86
   go_wp2_with (first | (go_at_call 83; (refine (Hk _ _ (by exact Blk.new_at (by simp))).out.mono ?_); rintro e w1 ⟨rfl, rfl⟩) | go_in)
   go_ret
   exact ⟨by simp [errIf, cnt3], (Upd.refl _ _).alloc _⟩
end Go.Proofs.YtjjdlgjofjfgmaaGreatDoor
