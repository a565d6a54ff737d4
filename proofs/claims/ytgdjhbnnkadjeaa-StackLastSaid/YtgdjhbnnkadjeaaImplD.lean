/- The walks of package stack, fourth part: local, Local, SetLocal. -/
import Derived.Test.YtgdjhbnnkadjeaaImplC
namespace Go.Proofs.Ytgdjhbnnkadjeaa
open Go.RowKit
/-! ### local, Local, SetLocal -/
theorem local_nil (i : Int) (w : World) : Calls Try.prog 26 #[.pointer none, .int .i64 i] w fun e w' => e = .returned (.tuple #[.pointer none, .int .i64 2]) ∧ w = w' := by
  go_enter Try.func26, Try.ntmps26
  go_wp2_with fail
  refine (top_nil _).mono ?_
  rintro e w1 ⟨rfl, rfl⟩
  go_wp2
  go_ret2
  exact ⟨rfl, rfl⟩
theorem local_none (S cap : Nat) (A : Option Addr) (words i : Int) (w : World) (hS : Blk w S 52 #[.slice A 0 cap, .int .i64 words]) :
    Calls Try.prog 26 #[.pointer (some ⟨S, 0, none⟩), .int .i64 i] w fun e w' => e = .returned (.tuple #[.pointer none, .int .i64 6]) ∧ w = w' := by
  go_enter Try.func26, Try.ntmps26
  go_wp2_with fail
  refine (top_empty S cap A words _ hS).mono ?_
  rintro e w1 ⟨rfl, rfl⟩
  go_wp2
  go_ret2
  exact ⟨rfl, rfl⟩
theorem local_bad (S g n cap fb nl cl : Nat) (A : Option Addr) (words i : Int) (vo r : Value) (w : World) (hn : n + 1 ≤ cap) (hcap : cap ≤ maxLen) (hi : i < 0 ∨ (nl : Int) ≤ i) (hnl : nl ≤ 40)
    (hS : Blk w S 52 #[.slice (some ⟨g, 0, none⟩) (n + 1) cap, .int .i64 words]) (hp : w.cell? ⟨g, n, none⟩ = some (.pointer (some ⟨fb, 0, none⟩)))
    (hF : Blk w fb 57 #[vo, r, .slice A nl cl]) :
    Calls Try.prog 26 #[.pointer (some ⟨S, 0, none⟩), .int .i64 i] w fun e w' => e = .returned (.tuple #[.pointer none, .int .i64 3]) ∧ ∃ k, w' = w.drewN k := by
  have x2 := hF.cell 2
  simp at x2
  rcases hi with hi | hi
  · go_enter Try.func26, Try.ntmps26
    go_wp2_with fail
    refine (top_some S g n cap _ _ _ hn hcap hS hp).mono ?_
    rintro e w1 ⟨rfl, j, rfl⟩
    go_wp2
    go_ret2
    exact ⟨rfl, _, rfl⟩
  · have hi' : ¬ i < 0 := by omega
    go_enter Try.func26, Try.ntmps26
    go_wp2_with fail
    refine (top_some S g n cap _ _ _ hn hcap hS hp).mono ?_
    rintro e w1 ⟨rfl, j, rfl⟩
    go_wp2
    go_ret2
    exact ⟨rfl, _, rfl⟩
theorem local_good (S g n cap fb nl cl gl : Nat) (i : Nat) (words : Int) (vo r : Value) (w : World) (hn : n + 1 ≤ cap) (hcap : cap ≤ maxLen) (hi : i < nl) (_hnl : nl ≤ 40)
    (hS : Blk w S 52 #[.slice (some ⟨g, 0, none⟩) (n + 1) cap, .int .i64 words]) (hp : w.cell? ⟨g, n, none⟩ = some (.pointer (some ⟨fb, 0, none⟩)))
    (hF : Blk w fb 57 #[vo, r, .slice (some ⟨gl, 0, none⟩) nl cl]) :
    Calls Try.prog 26 #[.pointer (some ⟨S, 0, none⟩), .int .i64 i] w fun e w' => e = .returned (.tuple #[.pointer (some ⟨gl, i * 2, none⟩), .int .i64 0]) ∧ ∃ k, w' = w.drewN k := by
  have x2 := hF.cell 2
  simp at x2
  go_enter Try.func26, Try.ntmps26
  go_wp2_with fail
  refine (top_some S g n cap _ _ _ hn hcap hS hp).mono ?_
  rintro e w1 ⟨rfl, j, rfl⟩
  go_wp2
  go_ret2
  exact ⟨rfl, _, rfl⟩

theorem Local_err (p : Value) (i c : Int) (w : World) (hc : c ≠ 0) (hl : ∀ o, Calls Try.prog 26 #[p, .int .i64 i] (w.alloc o) fun e w' => e = .returned (.tuple #[.pointer none, .int .i64 c]) ∧ ∃ k, w' = (w.alloc o).drewN k) :
    Calls Try.prog 15 #[p, .int .i64 i] w fun e w' => e = .returned (.tuple #[.agg #[.bool false, .int .i64 0], .int .i64 c]) ∧ Upd w w' [] := by
  have Hl := hid hl
  clear hl
  have hc' : (c == 0) = false := by simpa using hc
  go_enter Try.func15, Try.ntmps15
  go_wp2_with fail
  refine (Hl.out _).mono ?_
  rintro e w1 ⟨rfl, k, rfl⟩
  go_wp2
  exact bodyPost_ret (v := .tuple #[.agg #[.bool false, .int .i64 0], .int .i64 c]) (by simp [results, Try.results15, go_sem]) rfl ⟨rfl, ((((Upd.refl _ _).alloc _).drewN _).setCell (.inr (by simp)) _).setCell (.inr (by simp)) _⟩
theorem Local_ok (p : Value) (i : Int) (gl j : Nat) (b : Bool) (m : Int) (w : World) (hl : ∀ o, Calls Try.prog 26 #[p, .int .i64 i] (w.alloc o) fun e w' => e = .returned (.tuple #[.pointer (some ⟨gl, j, none⟩), .int .i64 0]) ∧ ∃ k, w' = (w.alloc o).drewN k)
    (h0 : w.cell? ⟨gl, j, none⟩ = some (.bool b)) (h1 : w.cell? ⟨gl, j + 1, none⟩ = some (.int .i64 m)) :
    Calls Try.prog 15 #[p, .int .i64 i] w fun e w' => e = .returned (.tuple #[.agg #[.bool b, .int .i64 m], .int .i64 0]) ∧ Upd w w' [] := by
  have Hl := hid hl
  clear hl
  have hgl : gl < w.heap.size := World.block_lt_of_cell? w _ h0
  go_enter Try.func15, Try.ntmps15
  go_wp2_with fail
  refine (Hl.out _).mono ?_
  rintro e w1 ⟨rfl, k, rfl⟩
  go_wp2
  exact bodyPost_ret (v := .tuple #[.agg #[.bool b, .int .i64 m], .int .i64 0]) (by simp [results, Try.results15, go_sem]) rfl ⟨rfl, ((((Upd.refl _ _).alloc _).drewN _).setCell (.inr (by simp)) _).setCell (.inr (by simp)) _⟩

theorem SetLocal_err (p : Value) (i c : Int) (v : V2) (w : World) (hc : c ≠ 0) (hl : ∀ o, Calls Try.prog 26 #[p, .int .i64 i] (w.alloc o) fun e w' => e = .returned (.tuple #[.pointer none, .int .i64 c]) ∧ ∃ k, w' = (w.alloc o).drewN k) :
    Calls Try.prog 14 #[p, .int .i64 i, v.val] w fun e w' => e = .returned (.int .i64 c) ∧ Upd w w' [] := by
  have Hl := hid hl
  clear hl
  have hc' : (c == 0) = false := by simpa using hc
  go_enter Try.func14, Try.ntmps14
  unfold V2.val
  go_wp2_with fail
  refine (Hl.out _).mono ?_
  rintro e w1 ⟨rfl, k, rfl⟩
  go_wp2
  go_ret
  exact ⟨rfl, ((Upd.refl _ _).alloc _).drewN _⟩
theorem SetLocal_ok (p : Value) (i : Int) (gl j : Nat) (v : V2) (x0 x1 : Value) (w : World) (hl : ∀ o, Calls Try.prog 26 #[p, .int .i64 i] (w.alloc o) fun e w' => e = .returned (.tuple #[.pointer (some ⟨gl, j, none⟩), .int .i64 0]) ∧ ∃ k, w' = (w.alloc o).drewN k)
    (h0 : w.cell? ⟨gl, j, none⟩ = some x0) (h1 : w.cell? ⟨gl, j + 1, none⟩ = some x1) (f0 : w.frozen? ⟨gl, j, none⟩ = false) (f1 : w.frozen? ⟨gl, j + 1, none⟩ = false) :
    Calls Try.prog 14 #[p, .int .i64 i, v.val] w fun e w' => e = .returned (.int .i64 0) ∧ ∃ k o, w' = (((w.alloc o).drewN k).setCell ⟨gl, j, none⟩ (.bool v.ref)).setCell ⟨gl, j + 1, none⟩ (.int .i64 v.n) := by
  have Hl := hid hl
  clear hl
  have hgl : gl < w.heap.size := World.block_lt_of_cell? w _ h0
  go_enter Try.func14, Try.ntmps14
  unfold V2.val
  go_wp2_with fail
  refine (Hl.out _).mono ?_
  rintro e w1 ⟨rfl, k, rfl⟩
  go_wp2
  go_ret
  exact ⟨rfl, _, _, rfl⟩
end Go.Proofs.Ytgdjhbnnkadjeaa
