/- The walks of the reference, first part: Words. -/
import Derived.Test.YtgdjhbnnkadjeaaImplE
namespace Go.Proofs.Ytgdjhbnnkadjeaa
open Go.RowKit
def sumTo (f : Nat → Nat) : Nat → Nat
  | 0 => 0
  | k + 1 => sumTo f k + f k
theorem sumTo_le (f : Nat → Nat) {k n : Nat} (h : k ≤ n) : sumTo f k ≤ sumTo f n := by
  induction n with
  | zero => obtain rfl : k = 0 := by omega
            exact Nat.le_refl _
  | succ n ih =>
    by_cases e : k = n + 1
    · subst e; exact Nat.le_refl _
    · have := ih (by omega)
      simp only [sumTo]; omega

set_option maxHeartbeats 400000 in
theorem rWords (X N cap : Nat) (A : Option Addr) (ll rm : Nat → Nat) (w : World) (hX : Blk w X 46 #[.slice A N cap]) (hN : N ≤ 4000) (hcap : N ≤ cap)
    (hs : sumTo (fun k => ll k + rm k + 3) N ≤ 4000)
    (hc : ∀ k, k < N → ∃ g B lc, A = some ⟨g, 0, none⟩ ∧ w.cell? ⟨g, k * 3, none⟩ = some (.slice B (ll k) lc) ∧ w.cell? ⟨g, k * 3 + 2, none⟩ = some (.int .i64 (rm k))) :
    Calls Try.prog 19 #[.pointer (some ⟨X, 0, none⟩)] w fun e w' => e = .returned (.int .i64 (sumTo (fun k => ll k + rm k + 3) N)) ∧ ∃ d, w' = w.drewN d := by
  have h0 := hX.cell 0
  simp at h0
  have Hs := hid hs
  have Hc := hid hc
  clear hs hc
  go_enter Try.func19, Try.ntmps19
  go_wp2
  go_loopw [3, 4] (fun n i wr => ∃ k d : Nat, k ≤ N ∧ i = .int .i64 k ∧ n = .int .i64 (sumTo (fun k => ll k + rm k + 3) k) ∧ wr = w.drewN d) (fun _ i _ => N - (intOf i).toNat)
  case atStart => exact ⟨0, 0, Nat.zero_le _, rfl, rfl, rfl⟩
  case round =>
    obtain ⟨k, d, hk, rfl, rfl, rfl⟩ := hrel
    by_cases hlt : k < N
    · obtain ⟨g, B, lc, rfl, c0, c2⟩ := Hc.out k hlt
      have b1 : sumTo (fun k => ll k + rm k + 3) k + (ll k + rm k + 3) ≤ 4000 := Nat.le_trans (sumTo_le (fun k => ll k + rm k + 3) (k := k + 1) (n := N) (by omega)) Hs.out
      generalize hS : sumTo (fun k => ll k + rm k + 3) k = Sk at *
      have HS := hid hS
      clear hS
      go_wp2
      go_quiet (fail)
      go_wp2
      go_roundw
      case rel => exact ⟨k + 1, _, by omega, by go_num, by simp only [sumTo]; rw [HS.out]; go_num, rfl⟩
      case measure => simp [intOf]; omega
    · obtain rfl : k = N := by omega
      go_wp2
      go_ret
      exact ⟨rfl, _, rfl⟩
end Go.Proofs.Ytgdjhbnnkadjeaa
