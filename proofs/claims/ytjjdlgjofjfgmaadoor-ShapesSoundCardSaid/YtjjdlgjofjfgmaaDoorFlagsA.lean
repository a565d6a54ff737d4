/-
  Package flags, walked.
-/
import Derived.Test.YtjjdlgjofjfgmaaDoorCodeB
set_option linter.unusedSimpArgs false
set_option linter.unusedVariables false
namespace Go.Proofs.YtjjdlgjofjfgmaaDoor
open Go.RowKit

def allF (f m : Int) : Bool := bits BinOp.and IntKind.i64 f m == m
def anyF (f m : Int) : Bool := bits BinOp.and IntKind.i64 f m != 0
def outF (f m : Int) : Bool := bits BinOp.andNot IntKind.i64 f m != 0
theorem all_any (f m : Int) (w : World) : Calls Tryd.prog 62 #[.int .i64 f, .int .i64 m] w fun e w' => e = .returned (.bool (allF f m)) ∧ w = w' := by
  go_enter Tryd.func62, Tryd.ntmps62
  go_wp2
  go_ret
  exact ⟨rfl, rfl⟩

/-- Do a class's flags go together? -/
def classF (f : Int) : Bool := !(outF f 1585 || allF f 1040) && !(allF f 512 && (!allF f 1024 || anyF f 48))
theorem checkClass_any (f : Int) (w : World) : Calls Tryd.prog 30 #[.int .i64 f] w fun e w' => e = .returned (.int .i64 (errIf (classF f))) ∧ w = w' := by
  have HA := fun m w => hid (all_any f m w)
  unfold classF
  have h1 : (bits BinOp.andNot IntKind.i64 f 1585 != 0) = outF f 1585 := rfl
  have h5 : (bits BinOp.and IntKind.i64 f 48 != 0) = anyF f 48 := rfl
  generalize outF f 1585 = b1 at *
  generalize anyF f 48 = b5 at *
  have H2 := HA 1040
  have H3 := HA 512
  have H4 := HA 1024
  generalize allF f 1040 = b2 at *
  generalize allF f 512 = b3 at *
  generalize allF f 1024 = b4 at *
  clear HA
  go_enter Tryd.func30, Tryd.ntmps30
  go_wp2_with fail
  refine (H3 _).out.mono ?_
  rintro e w1 ⟨rfl, rfl⟩
  cases b1 with
  | true =>
    go_wp2
    go_ret
    exact ⟨by simp [errIf], rfl⟩
  | false =>
    go_wp2_with fail
    refine (H2 _).out.mono ?_
    rintro e w1 ⟨rfl, rfl⟩
    cases b2 with
    | true =>
      go_wp2
      go_ret
      exact ⟨by simp [errIf], rfl⟩
    | false =>
      cases b3 with
      | false =>
        go_wp2
        go_ret
        exact ⟨by simp [errIf], rfl⟩
      | true =>
        go_wp2_with fail
        refine (H4 _).out.mono ?_
        rintro e w1 ⟨rfl, rfl⟩
        cases b4 with
        | false =>
          go_wp2
          go_ret
          exact ⟨by simp [errIf], rfl⟩
        | true =>
          cases b5
          all_goals
            go_wp2
            go_ret
            exact ⟨by simp [errIf], rfl⟩

/-- Do a method's flags go together, in a class or an interface, for this name? -/
def methodF (f : Int) (iface init : Bool) : Bool :=
  !outF f 1055 && !(bits BinOp.and IntKind.i64 (bits BinOp.and IntKind.i64 f 7) (wrap64 (bits BinOp.and IntKind.i64 f 7 - 1)) != 0) && !(allF f 1024 && anyF f 26) &&
    !(iface && ((bits BinOp.and IntKind.i64 (bits BinOp.and IntKind.i64 f 7) 3 == 0) || anyF f 16 || init)) && !(init && anyF f 1048)
set_option maxHeartbeats 2000000 in
theorem checkMethod_any (f : Int) (iface : Bool) (nm : List UInt8) (w : World) :
    Calls Tryd.prog 33 #[.int .i64 f, .bool iface, .string (bs nm)] w fun e w' => e = .returned (.int .i64 (errIf (methodF f iface (decide (nm = initB))))) ∧ w = w' := by
  have H4 := fun w => hid (all_any f 1024 w)
  unfold methodF
  have h0 : (bits BinOp.andNot IntKind.i64 f 1055 != 0) = outF f 1055 := rfl
  obtain ⟨b1, h1⟩ : ∃ b, (bits BinOp.and IntKind.i64 (bits BinOp.and IntKind.i64 f 7) (wrap64 (bits BinOp.and IntKind.i64 f 7 - 1)) != 0) = b := ⟨_, rfl⟩
  obtain ⟨b5, h5⟩ : ∃ b, (bits BinOp.and IntKind.i64 (bits BinOp.and IntKind.i64 f 7) 3 == 0) = b := ⟨_, rfl⟩
  rw [h1, h5]
  have h3 : (bits BinOp.and IntKind.i64 f 26 != 0) = anyF f 26 := rfl
  have h6 : (bits BinOp.and IntKind.i64 f 16 != 0) = anyF f 16 := rfl
  have h8 : (bits BinOp.and IntKind.i64 f 1048 != 0) = anyF f 1048 := rfl
  have h7 : ((bs nm).toList == [60, 105, 110, 105, 116, 62]) = decide (nm = initB) := by
    rw [bs_toList, Bool.eq_iff_iff, decide_eq_true_eq]
    simp [initB]
  generalize decide (nm = initB) = b7 at *
  generalize outF f 1055 = b0 at *
  generalize allF f 1024 = b2 at *
  generalize anyF f 26 = b3 at *
  generalize anyF f 16 = b6 at *
  generalize anyF f 1048 = b8 at *
  cases b0 with
  | true =>
    clear h1 h3 h5 h6 h8
    cases b7
    all_goals
      go_enter Tryd.func33, Tryd.ntmps33
      go_wp2
      go_ret
      exact ⟨by simp [errIf], rfl⟩
  | false =>
    cases b1 with
    | true =>
      clear h3 h5 h6 h8
      cases b7
      all_goals
        go_enter Tryd.func33, Tryd.ntmps33
        go_wp2
        go_ret
        exact ⟨by simp [errIf], rfl⟩
    | false =>
      cases b2 <;> cases b3 <;> cases iface <;> cases b5 <;> cases b6 <;> cases b7 <;> cases b8
      all_goals
        go_enter Tryd.func33, Tryd.ntmps33
        go_wp2_with fail
        refine (H4 _).out.mono ?_
        rintro e w1 ⟨rfl, rfl⟩
        go_wp2
        go_ret
        exact ⟨by simp [errIf], rfl⟩
end Go.Proofs.YtjjdlgjofjfgmaaDoor
