/- The walks of the reference, second part: Depth, Leave, Peek, Local. -/
import Derived.Test.YtgdjhbnnkadjeaaRefA
namespace Go.Proofs.Ytgdjhbnnkadjeaa
open Go.RowKit
theorem rDepth_none (X cap : Nat) (A : Option Addr) (w : World) (hX : Blk w X 46 #[.slice A 0 cap]) :
    Calls Try.prog 21 #[.pointer (some ⟨X, 0, none⟩)] w fun e w' => e = .returned (.int .i64 0) ∧ Upd w w' [] := by
  have h0 := hX.cell 0
  simp at h0
  go_enter Try.func21, Try.ntmps21
  go_wp2
  go_ret
  exact ⟨rfl, Upd.refl _ _⟩
theorem rDepth_some (X g n cap no co : Nat) (B : Option Addr) (w : World) (hX : Blk w X 46 #[.slice (some ⟨g, 0, none⟩) (n + 1) cap]) (hn : n ≤ 4000)
    (c1 : w.cell? ⟨g, n * 3 + 1, none⟩ = some (.slice B no co)) :
    Calls Try.prog 21 #[.pointer (some ⟨X, 0, none⟩)] w fun e w' => e = .returned (.int .i64 no) ∧ Upd w w' [] := by
  have h0 := hX.cell 0
  simp at h0
  go_enter Try.func21, Try.ntmps21
  go_wp2
  try go_quiet (fail)
  go_wp2
  go_ret
  exact ⟨rfl, (Upd.refl _ _).drewN _⟩

theorem rLeave_none (X cap : Nat) (A : Option Addr) (w : World) (hX : Blk w X 46 #[.slice A 0 cap]) :
    Calls Try.prog 29 #[.pointer (some ⟨X, 0, none⟩)] w fun e w' => e = .returned (.int .i64 6) ∧ Upd w w' [] := by
  have h0 := hX.cell 0
  simp at h0
  go_enter Try.func29, Try.ntmps29
  go_wp2
  go_ret
  exact ⟨rfl, Upd.refl _ _⟩
theorem rLeave_some (X g n cap : Nat) (w : World) (hX : Blk w X 46 #[.slice (some ⟨g, 0, none⟩) (n + 1) cap]) (hn : n ≤ 4000) (hcap : n + 1 ≤ cap) :
    Calls Try.prog 29 #[.pointer (some ⟨X, 0, none⟩)] w fun e w' => e = .returned (.int .i64 0) ∧ Blk w' X 46 #[.slice (some ⟨g, 0, none⟩) n cap] ∧ Upd w w' [X] := by
  have h0 := hX.cell 0
  have f0 := hX.frozen 0
  have hlt := hX.lt
  simp at h0
  go_enter Try.func29, Try.ntmps29
  go_wp2
  go_region
  all_goals go_wp2
  all_goals go_ret
  all_goals exact ⟨rfl, hX.set_ 0 _, ((Upd.refl _ _).setCell (.inl (by simp)) _).drew⟩

theorem rPeek_none (X cap : Nat) (A : Option Addr) (k : Int) (w : World) (hX : Blk w X 46 #[.slice A 0 cap]) :
    Calls Try.prog 32 #[.pointer (some ⟨X, 0, none⟩), .int .i64 k] w fun e w' => e = .returned (.tuple #[.agg #[.bool false, .int .i64 0], .int .i64 6]) ∧ Upd w w' [] := by
  have h0 := hX.cell 0
  have hlt := hX.lt
  simp at h0
  go_enter Try.func32, Try.ntmps32
  go_wp2
  exact bodyPost_ret (v := .tuple #[.agg #[.bool false, .int .i64 0], .int .i64 6]) (by simp [results, Try.results32, go_sem]) rfl ⟨rfl, (Upd.refl _ _).alloc _⟩
theorem rPeek_bad (X g n cap no co : Nat) (k : Int) (B : Option Addr) (w : World) (hX : Blk w X 46 #[.slice (some ⟨g, 0, none⟩) (n + 1) cap]) (hn : n ≤ 4000) (hno : no ≤ 40)
    (hk : k < 0 ∨ (no : Int) ≤ k) (c1 : w.cell? ⟨g, n * 3 + 1, none⟩ = some (.slice B no co)) :
    Calls Try.prog 32 #[.pointer (some ⟨X, 0, none⟩), .int .i64 k] w fun e w' => e = .returned (.tuple #[.agg #[.bool false, .int .i64 0], .int .i64 35]) ∧ Upd w w' [] := by
  have h0 := hX.cell 0
  have hlt := hX.lt
  have hgl : g < w.heap.size := World.block_lt_of_cell? w _ c1
  simp at h0
  rcases hk with hk | hk
  · go_enter Try.func32, Try.ntmps32
    go_wp2
    go_quiet (fail)
    go_wp2
    exact bodyPost_ret (v := .tuple #[.agg #[.bool false, .int .i64 0], .int .i64 35]) (by simp [results, Try.results32, go_sem]) rfl ⟨rfl, ((((Upd.refl _ _).alloc _).drewN _).setCell (.inr (by simp)) _).setCell (.inr (by simp)) _⟩
  · have hk' : ¬ k < 0 := by omega
    go_enter Try.func32, Try.ntmps32
    go_wp2
    go_quiet (fail)
    go_wp2
    exact bodyPost_ret (v := .tuple #[.agg #[.bool false, .int .i64 0], .int .i64 35]) (by simp [results, Try.results32, go_sem]) rfl ⟨rfl, ((((Upd.refl _ _).alloc _).drewN _).setCell (.inr (by simp)) _).setCell (.inr (by simp)) _⟩
theorem rPeek_good (X g n cap go no co k : Nat) (b : Bool) (m : Int) (w : World) (hX : Blk w X 46 #[.slice (some ⟨g, 0, none⟩) (n + 1) cap]) (hn : n ≤ 4000) (hno : no ≤ 40)
    (hk : k < no) (c1 : w.cell? ⟨g, n * 3 + 1, none⟩ = some (.slice (some ⟨go, 0, none⟩) no co))
    (h1 : w.cell? ⟨go, (no - 1 - k) * 2, none⟩ = some (.bool b)) (h2 : w.cell? ⟨go, (no - 1 - k) * 2 + 1, none⟩ = some (.int .i64 m)) :
    Calls Try.prog 32 #[.pointer (some ⟨X, 0, none⟩), .int .i64 k] w fun e w' => e = .returned (.tuple #[.agg #[.bool b, .int .i64 m], .int .i64 0]) ∧ Upd w w' [] := by
  have h0 := hX.cell 0
  have hlt := hX.lt
  have hgl : g < w.heap.size := World.block_lt_of_cell? w _ c1
  have hgol : go < w.heap.size := World.block_lt_of_cell? w _ h1
  simp at h0
  obtain ⟨j, hj, hjn⟩ : ∃ j : Nat, no - 1 - k = j ∧ j + k + 1 = no := ⟨no - 1 - k, rfl, by omega⟩
  rw [hj] at h1 h2
  clear hj
  obtain rfl : no = j + k + 1 := hjn.symm
  clear hjn
  have e1 : ((j : Int) + k + 1 - 1 - k) = j := by omega
  go_enter Try.func32, Try.ntmps32
  go_wp2
  go_quiet (fail)
  go_wp2
  exact bodyPost_ret (v := .tuple #[.agg #[.bool b, .int .i64 m], .int .i64 0]) (by simp [results, Try.results32, go_sem]) rfl ⟨rfl, ((((Upd.refl _ _).alloc _).drewN _).setCell (.inr (by simp)) _).setCell (.inr (by simp)) _⟩
theorem rLocal_none (X cap : Nat) (A : Option Addr) (k : Int) (w : World) (hX : Blk w X 46 #[.slice A 0 cap]) :
    Calls Try.prog 33 #[.pointer (some ⟨X, 0, none⟩), .int .i64 k] w fun e w' => e = .returned (.tuple #[.agg #[.bool false, .int .i64 0], .int .i64 6]) ∧ Upd w w' [] := by
  have h0 := hX.cell 0
  have hlt := hX.lt
  simp at h0
  go_enter Try.func33, Try.ntmps33
  go_wp2
  exact bodyPost_ret (v := .tuple #[.agg #[.bool false, .int .i64 0], .int .i64 6]) (by simp [results, Try.results33, go_sem]) rfl ⟨rfl, (Upd.refl _ _).alloc _⟩
theorem rLocal_bad (X g n cap no co : Nat) (k : Int) (B : Option Addr) (w : World) (hX : Blk w X 46 #[.slice (some ⟨g, 0, none⟩) (n + 1) cap]) (hn : n ≤ 4000) (hno : no ≤ 40)
    (hk : k < 0 ∨ (no : Int) ≤ k) (c1 : w.cell? ⟨g, n * 3, none⟩ = some (.slice B no co)) :
    Calls Try.prog 33 #[.pointer (some ⟨X, 0, none⟩), .int .i64 k] w fun e w' => e = .returned (.tuple #[.agg #[.bool false, .int .i64 0], .int .i64 3]) ∧ Upd w w' [] := by
  have h0 := hX.cell 0
  have hlt := hX.lt
  have hgl : g < w.heap.size := World.block_lt_of_cell? w _ c1
  simp at h0
  rcases hk with hk | hk
  · go_enter Try.func33, Try.ntmps33
    go_wp2
    go_quiet (fail)
    go_wp2
    exact bodyPost_ret (v := .tuple #[.agg #[.bool false, .int .i64 0], .int .i64 3]) (by simp [results, Try.results33, go_sem]) rfl ⟨rfl, ((((Upd.refl _ _).alloc _).drewN _).setCell (.inr (by simp)) _).setCell (.inr (by simp)) _⟩
  · have hk' : ¬ k < 0 := by omega
    go_enter Try.func33, Try.ntmps33
    go_wp2
    go_quiet (fail)
    go_wp2
    exact bodyPost_ret (v := .tuple #[.agg #[.bool false, .int .i64 0], .int .i64 3]) (by simp [results, Try.results33, go_sem]) rfl ⟨rfl, ((((Upd.refl _ _).alloc _).drewN _).setCell (.inr (by simp)) _).setCell (.inr (by simp)) _⟩
theorem rLocal_good (X g n cap go no co k : Nat) (b : Bool) (m : Int) (w : World) (hX : Blk w X 46 #[.slice (some ⟨g, 0, none⟩) (n + 1) cap]) (hn : n ≤ 4000) (_hno : no ≤ 40)
    (hk : k < no) (c1 : w.cell? ⟨g, n * 3, none⟩ = some (.slice (some ⟨go, 0, none⟩) no co))
    (h1 : w.cell? ⟨go, k * 2, none⟩ = some (.bool b)) (h2 : w.cell? ⟨go, k * 2 + 1, none⟩ = some (.int .i64 m)) :
    Calls Try.prog 33 #[.pointer (some ⟨X, 0, none⟩), .int .i64 k] w fun e w' => e = .returned (.tuple #[.agg #[.bool b, .int .i64 m], .int .i64 0]) ∧ Upd w w' [] := by
  have h0 := hX.cell 0
  have hlt := hX.lt
  have hgl : g < w.heap.size := World.block_lt_of_cell? w _ c1
  have hgol : go < w.heap.size := World.block_lt_of_cell? w _ h1
  simp at h0
  go_enter Try.func33, Try.ntmps33
  go_wp2
  go_quiet (fail)
  go_wp2
  exact bodyPost_ret (v := .tuple #[.agg #[.bool b, .int .i64 m], .int .i64 0]) (by simp [results, Try.results33, go_sem]) rfl ⟨rfl, ((((Upd.refl _ _).alloc _).drewN _).setCell (.inr (by simp)) _).setCell (.inr (by simp)) _⟩
end Go.Proofs.Ytgdjhbnnkadjeaa
