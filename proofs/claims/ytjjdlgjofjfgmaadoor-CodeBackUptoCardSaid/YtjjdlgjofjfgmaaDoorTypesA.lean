/-
  Package types, walked: the cursor.
-/
import Derived.Test.YtjjdlgjofjfgmaaDoorBytes
import Derived.Deep.RegionHeld3
set_option linter.unusedSimpArgs false
set_option linter.unusedVariables false
namespace Go.Proofs.YtjjdlgjofjfgmaaDoor
open Go.RowKit

def takes (c : UInt8) (l : List UInt8) : Bool := l.head? == some c
def left (c : UInt8) (l : List UInt8) : List UInt8 := if l.head? == some c then l.tail else l

theorem take_any (C : Nat) (l : List UInt8) (b : Bool) (c : UInt8) (n : Nat) (w : World) (hn : c.toNat = n) (hC : Blk w C 108 #[.string (bs l), .bool b]) (hl : l.length ≤ 9223372036854775807) :
    Calls Tryd.prog 77 #[.pointer (some ⟨C, 0, none⟩), .int .u8 n] w fun e w' =>
      e = .returned (.bool (takes c l)) ∧ Blk w' C 108 #[.string (bs (left c l)), .bool b] ∧ Upd w w' [C] := by
  have c0 := hC.cell 0
  have f0 := hC.frozen 0
  simp at c0
  cases l with
  | nil =>
    rw [bs_nil] at c0
    go_enter Tryd.func77, Tryd.ntmps77
    go_wp2
    go_ret
    exact ⟨rfl, hC, Upd.refl _ _⟩
  | cons x t =>
    have hs : (bs (x :: t)).size = t.length + 1 := by rw [bs_size]; rfl
    have hg : ∀ h, ((bs (x :: t))[0]'h) = x := fun h => bs_get _ _ h
    have he : ((bs (x :: t)).toList == []) = false := by rw [bs_toList]; rfl
    have he2 : ¬ (bs (x :: t)).toList = [] := by rw [bs_toList]; simp
    have hx := x.toNat_lt
    have ht := bs_tail x t
    have hl2 : t.length + 1 ≤ 9223372036854775807 := hl
    have Hfin := hid (hC.set_ 0 (.string (bs t)))
    have HC := hid hC
    clear hC
    rw [hs] at ht
    by_cases hc : x = c
    · subst hc
      have e1 : takes x (x :: t) = true := by simp [takes]
      have e2 : left x (x :: t) = t := by simp [left]
      rw [e1, e2]
      clear e1 e2
      subst hn
      go_enter Tryd.func77, Tryd.ntmps77
      go_wp2
      go_ret
      exact ⟨rfl, Hfin.out, (Upd.refl _ _).setCell (.inl (by simp)) _⟩
    · have e1 : takes c (x :: t) = false := by simp [takes, hc]
      have e2 : left c (x :: t) = x :: t := by simp [left, hc]
      have hc' : x.toNat ≠ n := fun h => hc (UInt8.toNat_inj.1 (h.trans hn.symm))
      rw [e1, e2]
      clear e1 e2 hn hc
      go_enter Tryd.func77, Tryd.ntmps77
      go_wp2
      go_ret
      exact ⟨rfl, HC.out, Upd.refl _ _⟩
end Go.Proofs.YtjjdlgjofjfgmaaDoor
