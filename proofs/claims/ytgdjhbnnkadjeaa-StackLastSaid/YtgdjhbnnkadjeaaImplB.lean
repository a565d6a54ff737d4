/- The walks of package stack, second part: top, Leave, Put. -/
import Derived.Test.YtgdjhbnnkadjeaaImpl
namespace Go.Proofs.Ytgdjhbnnkadjeaa
open Go.RowKit
/-- the same world, but for draws -/
def Same (w w' : World) : Prop := ∃ k, w' = w.drewN k

theorem top_nil (w : World) : Calls Try.prog 24 #[.pointer none] w fun e w' => e = .returned (.tuple #[.pointer none, .int .i64 2]) ∧ w = w' := by
  go_enter Try.func24, Try.ntmps24
  go_wp2
  go_ret2
  exact ⟨rfl, rfl⟩
theorem top_empty (S cap : Nat) (A : Option Addr) (words : Int) (w : World) (hS : Blk w S 52 #[.slice A 0 cap, .int .i64 words]) :
    Calls Try.prog 24 #[.pointer (some ⟨S, 0, none⟩)] w fun e w' => e = .returned (.tuple #[.pointer none, .int .i64 6]) ∧ w = w' := by
  have h0 := hS.cell 0
  simp at h0
  go_enter Try.func24, Try.ntmps24
  go_wp2
  go_ret2
  exact ⟨rfl, rfl⟩
theorem top_some (S g n cap : Nat) (words : Int) (p : Value) (w : World) (hn : n + 1 ≤ cap) (hcap : cap ≤ maxLen)
    (hS : Blk w S 52 #[.slice (some ⟨g, 0, none⟩) (n + 1) cap, .int .i64 words]) (hp : w.cell? ⟨g, n, none⟩ = some p) :
    Calls Try.prog 24 #[.pointer (some ⟨S, 0, none⟩)] w fun e w' => e = .returned (.tuple #[p, .int .i64 0]) ∧ ∃ k, w' = w.drewN k := by
  unfold maxLen at hcap
  have h0 := hS.cell 0
  simp at h0
  go_enter Try.func24, Try.ntmps24
  go_wp2
  go_quiet (fail)
  go_wp2
  go_ret2
  exact ⟨rfl, _, rfl⟩

/-! ### Leave -/
theorem leave_nil (w : World) : Calls Try.prog 11 #[.pointer none] w fun e w' => e = .returned (.int .i64 2) ∧ w = w' := by
  go_enter Try.func11, Try.ntmps11
  go_wp2_with fail
  refine (top_nil _).mono ?_
  rintro e w1 ⟨rfl, rfl⟩
  go_wp2
  go_ret
  exact ⟨rfl, rfl⟩
theorem leave_empty (S cap : Nat) (A : Option Addr) (words : Int) (w : World) (hS : Blk w S 52 #[.slice A 0 cap, .int .i64 words]) :
    Calls Try.prog 11 #[.pointer (some ⟨S, 0, none⟩)] w fun e w' => e = .returned (.int .i64 6) ∧ w = w' := by
  go_enter Try.func11, Try.ntmps11
  go_wp2_with fail
  refine (top_empty S cap A words _ hS).mono ?_
  rintro e w1 ⟨rfl, rfl⟩
  go_wp2
  go_ret
  exact ⟨rfl, rfl⟩
set_option maxHeartbeats 800000 in
theorem leave_some (S g n cap fb room : Nat) (words ll lc : Nat) (vo : Value) (A : Option Addr) (w : World) (hn : n + 1 ≤ cap) (hcap : cap ≤ maxLen) (hw : words + ll + room + 3 ≤ 4000) (hr : room ≤ 40) (hl : ll ≤ 40)
    (hS : Blk w S 52 #[.slice (some ⟨g, 0, none⟩) (n + 1) cap, .int .i64 ((words + (ll + room + 3) : Nat) : Int)]) (hp : w.cell? ⟨g, n, none⟩ = some (.pointer (some ⟨fb, 0, none⟩)))
    (hF : Blk w fb 57 #[vo, .int .i64 room, .slice A ll lc]) :
    Calls Try.prog 11 #[.pointer (some ⟨S, 0, none⟩)] w fun e w' => e = .returned (.int .i64 0) ∧ Blk w' S 52 #[.slice (some ⟨g, 0, none⟩) n cap, .int .i64 words] ∧ Upd w w' [S] := by
  have hcap' := hcap
  unfold maxLen at hcap'
  go_enter Try.func11, Try.ntmps11
  go_wp2_with fail
  refine (top_some S g n cap _ _ _ hn hcap hS hp).mono ?_
  rintro e w1 ⟨rfl, k, rfl⟩
  have h0 := hS.cell 0
  have h1 := hS.cell 1
  have f0 := hS.frozen 0
  have f1 := hS.frozen 1
  have hlt := hS.lt
  simp at h0 h1
  have hlt' := hF.lt
  have ew : IntKind.i64.wrap (words : Int) = words := IntWalk.i64_in _ (by omega)
  go_wp2_with fail
  clear hp
  go_region_with (go_at_call 23; refine (words_any fb vo room A ll lc _ hr hl (by exact hF)).mono ?_; rintro e w' ⟨rfl, k', rfl⟩)
  all_goals go_wp2
  all_goals go_region
  all_goals go_wp2
  all_goals go_ret
  all_goals exact ⟨rfl, (hS.set_ 1 (.int .i64 words)).set_ 0 (.slice (some ⟨g, 0, none⟩) n cap), ((((Upd.refl w [S]).drewN _).setCell (.inl (by simp)) _).setCell (.inl (by simp)) _).drew⟩

/-! ### Put -/
theorem put_nil (v : V2) (w : World) : Calls Try.prog 13 #[.pointer none, v.val] w fun e w' => e = .returned (.int .i64 2) ∧ Upd w w' [] := by
  go_enter Try.func13, Try.ntmps13
  unfold V2.val
  go_wp2_with fail
  refine (top_nil _).mono ?_
  rintro e w1 ⟨rfl, rfl⟩
  go_wp2
  go_ret
  exact ⟨rfl, (Upd.refl _ _).alloc _⟩
theorem put_none (S cap : Nat) (A : Option Addr) (words : Int) (v : V2) (w : World) (hS : Blk w S 52 #[.slice A 0 cap, .int .i64 words]) :
    Calls Try.prog 13 #[.pointer (some ⟨S, 0, none⟩), v.val] w fun e w' => e = .returned (.int .i64 6) ∧ Upd w w' [] := by
  go_enter Try.func13, Try.ntmps13
  unfold V2.val
  go_wp2_with fail
  refine (top_empty S cap A words _ (hS.alloc _)).mono ?_
  rintro e w1 ⟨rfl, rfl⟩
  go_wp2
  go_ret
  exact ⟨rfl, (Upd.refl _ _).alloc _⟩
theorem put_some {R : Ending → World → Prop} (S g n cap fb : Nat) (words : Int) (cs : Array Value) (v : V2) (w : World) (hn : n + 1 ≤ cap) (hcap : cap ≤ maxLen)
    (hS : Blk w S 52 #[.slice (some ⟨g, 0, none⟩) (n + 1) cap, .int .i64 words]) (hp : w.cell? ⟨g, n, none⟩ = some (.pointer (some ⟨fb, 0, none⟩)))
    (hF : Blk w fb 57 cs)
    (hput : ∀ k, Calls Try.prog 25 #[.pointer (some ⟨fb, 0, none⟩), .agg #[.bool v.ref, .int .i64 v.n]] ((w.alloc (.cells #[.bool v.ref, .int .i64 v.n] 34)).drewN k) R)
    (hR : ∀ e w', R e w' → ∃ c, e = .returned (.int .i64 c)) :
    Calls Try.prog 13 #[.pointer (some ⟨S, 0, none⟩), v.val] w R := by
  have Hput := hid hput
  have HR := hid hR
  clear hput hR
  have hlt' := hF.lt
  have hgl : g < w.heap.size := World.block_lt_of_cell? w _ hp
  go_enter Try.func13, Try.ntmps13
  unfold V2.val
  go_wp2_with fail
  refine (top_some S g n cap _ _ _ hn hcap (hS.alloc _) (by simpa [World.cell?_alloc_past _ _ _ hgl] using hp)).mono ?_
  rintro e w1 ⟨rfl, k, rfl⟩
  go_wp2_with fail
  go_region_with (go_at_call 25; refine (Hput.out _).mono ?_; rintro e w' hR'; obtain ⟨c, rfl⟩ := HR.out _ _ hR')
  go_wp2
  go_ret
  exact hR'
end Go.Proofs.Ytgdjhbnnkadjeaa
