/- The walks of package stack, third part: Peek, Take, Depth, Words, Frames, New. -/
import Derived.Test.YtgdjhbnnkadjeaaImplB
namespace Go.Proofs.Ytgdjhbnnkadjeaa
open Go.RowKit
/-! ### Peek -/
theorem Peek_nil (k : Int) (w : World) : Calls Try.prog 22 #[.pointer none, .int .i64 k] w fun e w' => e = .returned (.tuple #[.agg #[.bool false, .int .i64 0], .int .i64 2]) ∧ Upd w w' [] := by
  go_enter Try.func22, Try.ntmps22
  go_wp2_with fail
  refine (top_nil _).mono ?_
  rintro e w1 ⟨rfl, rfl⟩
  go_wp2
  exact bodyPost_ret (v := .tuple #[.agg #[.bool false, .int .i64 0], .int .i64 2]) (by simp [results, Try.results22, go_sem]) rfl ⟨rfl, (Upd.refl _ _).alloc _⟩
theorem Peek_none (S cap : Nat) (A : Option Addr) (words k : Int) (w : World) (hS : Blk w S 52 #[.slice A 0 cap, .int .i64 words]) :
    Calls Try.prog 22 #[.pointer (some ⟨S, 0, none⟩), .int .i64 k] w fun e w' => e = .returned (.tuple #[.agg #[.bool false, .int .i64 0], .int .i64 6]) ∧ Upd w w' [] := by
  go_enter Try.func22, Try.ntmps22
  go_wp2_with fail
  refine (top_empty S cap A words _ (hS.alloc _)).mono ?_
  rintro e w1 ⟨rfl, rfl⟩
  go_wp2
  exact bodyPost_ret (v := .tuple #[.agg #[.bool false, .int .i64 0], .int .i64 6]) (by simp [results, Try.results22, go_sem]) rfl ⟨rfl, (Upd.refl _ _).alloc _⟩
theorem Peek_some (S g n cap fb : Nat) (words k : Int) (cs : Array Value) (b : Bool) (m c : Int) (w : World) (hn : n + 1 ≤ cap) (hcap : cap ≤ maxLen)
    (hS : Blk w S 52 #[.slice (some ⟨g, 0, none⟩) (n + 1) cap, .int .i64 words]) (hp : w.cell? ⟨g, n, none⟩ = some (.pointer (some ⟨fb, 0, none⟩)))
    (hF : Blk w fb 57 cs)
    (hput : ∀ W, Upd w W [] → Calls Try.prog 35 #[.pointer (some ⟨fb, 0, none⟩), .int .i64 k] W fun e W' => e = .returned (.tuple #[.agg #[.bool b, .int .i64 m], .int .i64 c]) ∧ Upd W W' []) :
    Calls Try.prog 22 #[.pointer (some ⟨S, 0, none⟩), .int .i64 k] w fun e w' => e = .returned (.tuple #[.agg #[.bool b, .int .i64 m], .int .i64 c]) ∧ Upd w w' [] := by
  have Hput := hid hput
  clear hput
  have hlt' := hF.lt
  have hgl : g < w.heap.size := World.block_lt_of_cell? w _ hp
  go_enter Try.func22, Try.ntmps22
  go_wp2_with fail
  refine (top_some S g n cap _ _ _ hn hcap (hS.alloc _) (by simpa [World.cell?_alloc_past _ _ _ hgl] using hp)).mono ?_
  rintro e w1 ⟨rfl, j, rfl⟩
  go_wp2_with fail
  have hU0 : Upd w ((w.alloc (Obj.cells #[Value.bool false, Value.int IntKind.i64 0] 34)).drewN j) [] := ((Upd.refl w _).alloc _).drewN j
  refine (Hput.out _ hU0).mono ?_
  rintro e w1 ⟨rfl, hU⟩
  have hU' : Upd w w1 [] := hU0.trans hU
  have hs : w.heap.size < w1.heap.size := by have := hU.size; simp at this; omega
  have hB := hU.blk (Blk.new w 34 #[.bool false, .int .i64 0]) (by simp)
  have b0 := hB.cell 0
  have b1 := hB.cell 1
  have d0 := hB.frozen 0
  have d1 := hB.frozen 1
  simp at b0 b1
  go_wp2
  exact bodyPost_ret (v := .tuple #[.agg #[.bool b, .int .i64 m], .int .i64 c]) (by simp [results, Try.results22, go_sem, b0, b1]) rfl ⟨rfl, ((hU'.setCell (.inr (by simp)) _).setCell (.inr (by simp)) _)⟩

/-! ### Take -/
theorem Take_nil (w : World) : Calls Try.prog 17 #[.pointer none] w fun e w' => e = .returned (.tuple #[.agg #[.bool false, .int .i64 0], .int .i64 2]) ∧ Upd w w' [] := by
  go_enter Try.func17, Try.ntmps17
  go_wp2_with fail
  refine (top_nil _).mono ?_
  rintro e w1 ⟨rfl, rfl⟩
  go_wp2
  exact bodyPost_ret (v := .tuple #[.agg #[.bool false, .int .i64 0], .int .i64 2]) (by simp [results, Try.results17, go_sem]) rfl ⟨rfl, (Upd.refl _ _).alloc _⟩
theorem Take_none (S cap : Nat) (A : Option Addr) (words : Int) (w : World) (hS : Blk w S 52 #[.slice A 0 cap, .int .i64 words]) :
    Calls Try.prog 17 #[.pointer (some ⟨S, 0, none⟩)] w fun e w' => e = .returned (.tuple #[.agg #[.bool false, .int .i64 0], .int .i64 6]) ∧ Upd w w' [] := by
  go_enter Try.func17, Try.ntmps17
  go_wp2_with fail
  refine (top_empty S cap A words _ (hS.alloc _)).mono ?_
  rintro e w1 ⟨rfl, rfl⟩
  go_wp2
  exact bodyPost_ret (v := .tuple #[.agg #[.bool false, .int .i64 0], .int .i64 6]) (by simp [results, Try.results17, go_sem]) rfl ⟨rfl, (Upd.refl _ _).alloc _⟩
/-- What take leaves: the frame's block holds cs', nothing else has turned. -/
theorem Take_some (S g n cap fb : Nat) (words : Int) (cs cs' : Array Value) (b : Bool) (m c : Int) (w : World) (hn : n + 1 ≤ cap) (hcap : cap ≤ maxLen)
    (hS : Blk w S 52 #[.slice (some ⟨g, 0, none⟩) (n + 1) cap, .int .i64 words]) (hp : w.cell? ⟨g, n, none⟩ = some (.pointer (some ⟨fb, 0, none⟩)))
    (hF : Blk w fb 57 cs)
    (hput : ∀ W, Upd w W [] → Calls Try.prog 27 #[.pointer (some ⟨fb, 0, none⟩)] W fun e W' => e = .returned (.tuple #[.agg #[.bool b, .int .i64 m], .int .i64 c]) ∧ Blk W' fb 57 cs' ∧ Upd W W' [fb]) :
    Calls Try.prog 17 #[.pointer (some ⟨S, 0, none⟩)] w fun e w' => e = .returned (.tuple #[.agg #[.bool b, .int .i64 m], .int .i64 c]) ∧ Blk w' fb 57 cs' ∧ Upd w w' [fb] := by
  have Hput := hid hput
  clear hput
  have hlt' := hF.lt
  have hgl : g < w.heap.size := World.block_lt_of_cell? w _ hp
  go_enter Try.func17, Try.ntmps17
  go_wp2_with fail
  refine (top_some S g n cap _ _ _ hn hcap (hS.alloc _) (by simpa [World.cell?_alloc_past _ _ _ hgl] using hp)).mono ?_
  rintro e w1 ⟨rfl, j, rfl⟩
  go_wp2_with fail
  have hU0 : Upd w ((w.alloc (Obj.cells #[Value.bool false, Value.int IntKind.i64 0] 34)).drewN j) [] := ((Upd.refl w _).alloc _).drewN j
  refine (Hput.out _ hU0).mono ?_
  rintro e w1 ⟨rfl, hB', hU⟩
  have hU' : Upd w w1 [fb] := (hU0.mono (by simp)).trans hU
  have hs : w.heap.size < w1.heap.size := by have := hU.size; simp at this; omega
  have hB := hU.blk (Blk.new w 34 #[.bool false, .int .i64 0]) (by simp; omega)
  have b0 := hB.cell 0
  have b1 := hB.cell 1
  have d0 := hB.frozen 0
  have d1 := hB.frozen 1
  simp at b0 b1
  go_wp2
  exact bodyPost_ret (v := .tuple #[.agg #[.bool b, .int .i64 m], .int .i64 c]) (by simp [results, Try.results17, go_sem, b0, b1]) rfl
    ⟨rfl, (hB'.far (p := ⟨w.heap.size, 0, none⟩) (by simp; omega) (.bool b)).far (p := ⟨w.heap.size, 1, none⟩) (by simp; omega) (.int .i64 m), ((hU'.setCell (.inr (by simp)) _).setCell (.inr (by simp)) _)⟩

/-! ### Depth, Words, Frames -/
theorem Depth_nil (w : World) : Calls Try.prog 20 #[.pointer none] w fun e w' => e = .returned (.int .i64 0) ∧ Upd w w' [] := by
  go_enter Try.func20, Try.ntmps20
  go_wp2_with fail
  refine (top_nil _).mono ?_
  rintro e w1 ⟨rfl, rfl⟩
  go_wp2
  go_ret
  exact ⟨rfl, (Upd.refl _ _)⟩
theorem Depth_none (S cap : Nat) (A : Option Addr) (words : Int) (w : World) (hS : Blk w S 52 #[.slice A 0 cap, .int .i64 words]) :
    Calls Try.prog 20 #[.pointer (some ⟨S, 0, none⟩)] w fun e w' => e = .returned (.int .i64 0) ∧ Upd w w' [] := by
  go_enter Try.func20, Try.ntmps20
  go_wp2_with fail
  refine (top_empty S cap A words _ hS).mono ?_
  rintro e w1 ⟨rfl, rfl⟩
  go_wp2
  go_ret
  exact ⟨rfl, (Upd.refl _ _)⟩
theorem Depth_some (S g n cap fb no co : Nat) (A : Option Addr) (words : Int) (r vl : Value) (w : World) (hn : n + 1 ≤ cap) (hcap : cap ≤ maxLen)
    (hS : Blk w S 52 #[.slice (some ⟨g, 0, none⟩) (n + 1) cap, .int .i64 words]) (hp : w.cell? ⟨g, n, none⟩ = some (.pointer (some ⟨fb, 0, none⟩)))
    (hF : Blk w fb 57 #[.slice A no co, r, vl]) :
    Calls Try.prog 20 #[.pointer (some ⟨S, 0, none⟩)] w fun e w' => e = .returned (.int .i64 no) ∧ Upd w w' [] := by
  have x0 := hF.cell 0
  simp at x0
  go_enter Try.func20, Try.ntmps20
  go_wp2_with fail
  refine (top_some S g n cap _ _ _ hn hcap hS hp).mono ?_
  rintro e w1 ⟨rfl, j, rfl⟩
  go_wp2
  go_ret
  exact ⟨rfl, (Upd.refl _ _).drewN _⟩
theorem Words_nil (w : World) : Calls Try.prog 10 #[.pointer none] w fun e w' => e = .returned (.int .i64 0) ∧ Upd w w' [] := by
  go_enter Try.func10, Try.ntmps10
  go_wp2
  go_ret
  exact ⟨rfl, (Upd.refl _ _)⟩
theorem Words_some (S : Nat) (vf : Value) (words : Int) (w : World) (hS : Blk w S 52 #[vf, .int .i64 words]) :
    Calls Try.prog 10 #[.pointer (some ⟨S, 0, none⟩)] w fun e w' => e = .returned (.int .i64 words) ∧ Upd w w' [] := by
  have h1 := hS.cell 1
  simp at h1
  go_enter Try.func10, Try.ntmps10
  go_wp2
  go_ret
  exact ⟨rfl, (Upd.refl _ _)⟩
theorem Frames_nil (w : World) : Calls Try.prog 12 #[.pointer none] w fun e w' => e = .returned (.int .i64 0) ∧ Upd w w' [] := by
  go_enter Try.func12, Try.ntmps12
  go_wp2
  go_ret
  exact ⟨rfl, (Upd.refl _ _)⟩
theorem Frames_some (S n cap : Nat) (A : Option Addr) (words : Value) (w : World) (hS : Blk w S 52 #[.slice A n cap, words]) :
    Calls Try.prog 12 #[.pointer (some ⟨S, 0, none⟩)] w fun e w' => e = .returned (.int .i64 n) ∧ Upd w w' [] := by
  have h1 := hS.cell 0
  simp at h1
  go_enter Try.func12, Try.ntmps12
  go_wp2
  go_ret
  exact ⟨rfl, (Upd.refl _ _)⟩
theorem New_any (w : World) : Calls Try.prog 8 #[] w fun e w' => e = .returned (.pointer (some ⟨w.heap.size, 0, none⟩)) ∧ Blk w' w.heap.size 52 #[.slice none 0 0, .int .i64 0] ∧ Upd w w' [] := by
  go_enter Try.func8, Try.ntmps8
  go_wp2
  go_ret
  exact ⟨rfl, Blk.new _ _ _, (Upd.refl _ _).alloc _⟩
end Go.Proofs.Ytgdjhbnnkadjeaa
