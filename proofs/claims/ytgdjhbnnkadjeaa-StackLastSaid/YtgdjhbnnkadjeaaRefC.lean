/- The walks of the reference, third part: Take, SetLocal. -/
import Derived.Test.YtgdjhbnnkadjeaaRefB
namespace Go.Proofs.Ytgdjhbnnkadjeaa
open Go.RowKit
theorem info70 : (Try.prog.info? 70).map (fun i => (i.zero, i.size, i.bytes)) = some (some (.agg #[.slice none 0 0, .slice none 0 0, .int .i64 0]), 3, 56) := by kernel_rfl

theorem rTake_err (X : Nat) (c : Int) (w : World) (hc : c ≠ 0) (hp : ∀ o, Calls Try.prog 32 #[.pointer (some ⟨X, 0, none⟩), .int .i64 0] (w.alloc o) fun e w' => e = .returned (.tuple #[.agg #[.bool false, .int .i64 0], .int .i64 c]) ∧ Upd (w.alloc o) w' []) :
    Calls Try.prog 31 #[.pointer (some ⟨X, 0, none⟩)] w fun e w' => e = .returned (.tuple #[.agg #[.bool false, .int .i64 0], .int .i64 c]) ∧ Upd w w' [] := by
  have Hp := hid hp
  clear hp
  have hc' : (c == 0) = false := by simpa using hc
  go_enter Try.func31, Try.ntmps31
  go_wp2_with fail
  refine (Hp.out _).mono ?_
  rintro e w1 ⟨rfl, hU⟩
  have hU' : Upd w w1 [] := ((Upd.refl w _).alloc _).trans hU
  have hs : w.heap.size < w1.heap.size := by have := hU.size; simp at this; omega
  have hB := hU.blk (Blk.new w 34 #[.bool false, .int .i64 0]) (by simp)
  have b0 := hB.cell 0
  have b1 := hB.cell 1
  have d0 := hB.frozen 0
  have d1 := hB.frozen 1
  simp at b0 b1
  go_wp2
  exact bodyPost_ret (v := .tuple #[.agg #[.bool false, .int .i64 0], .int .i64 c]) (by simp [results, Try.results31, go_sem, hs, b0, b1]) rfl ⟨rfl, ((hU'.setCell (.inr (by simp)) _).setCell (.inr (by simp)) _).alloc _⟩

set_option maxHeartbeats 800000 in
set_option maxRecDepth 100000 in
theorem rTake_good (X g n cap no co go : Nat) (b : Bool) (m : Int) (w : World) (hX : Blk w X 46 #[.slice (some ⟨g, 0, none⟩) (n + 1) cap]) (hn : n ≤ 4000) (hno : no < 40) (hco : no + 1 ≤ co) (xs : List Value) (hown : w.ownsRow 0 70 3 (.slice (some ⟨g, 0, none⟩) (n + 1) cap) (n + 1) xs)
    (c1 : w.cell? ⟨g, n * 3 + 1, none⟩ = some (.slice (some ⟨go, 0, none⟩) (no + 1) co))
    (hp : ∀ o, Calls Try.prog 32 #[.pointer (some ⟨X, 0, none⟩), .int .i64 0] (w.alloc o) fun e w' => e = .returned (.tuple #[.agg #[.bool b, .int .i64 m], .int .i64 0]) ∧ Upd (w.alloc o) w' []) :
    Calls Try.prog 31 #[.pointer (some ⟨X, 0, none⟩)] w fun e w' => e = .returned (.tuple #[.agg #[.bool b, .int .i64 m], .int .i64 0]) ∧
      Blk w' X 46 #[.slice (some ⟨g, 0, none⟩) (n + 1) cap] ∧ w'.ownsRow 0 70 3 (.slice (some ⟨g, 0, none⟩) (n + 1) cap) (n + 1) (xs.set (n * 3 + 1) (.slice (some ⟨go, 0, none⟩) no co)) ∧ Upd w w' [g] := by
  have Hp := hid hp
  clear hp
  have f1 := hown.frozenAt (n * 3 + 1)
  have hXg : X ≠ g := fun e => own_blk_ne hown hX (by decide) (by simp [Value.ownBlock, e])
  have hlt := hX.lt
  have hgl : g < w.heap.size := World.block_lt_of_cell? w _ c1
  go_enter Try.func31, Try.ntmps31
  go_wp2_with fail
  refine (Hp.out _).mono ?_
  rintro e w1 ⟨rfl, hU⟩
  have hU' : Upd w w1 [] := ((Upd.refl w _).alloc _).trans hU
  have hs : w.heap.size < w1.heap.size := by have := hU.size; simp at this; omega
  have hB := hU.blk (Blk.new w 34 #[.bool false, .int .i64 0]) (by simp)
  have b0 := hB.cell 0
  have b1 := hB.cell 1
  have d0 := hB.frozen 0
  have d1 := hB.frozen 1
  have hX' := hU'.blk hX (by simp)
  have x0 := hX'.cell 0
  have z1 : w1.cell? ⟨g, n * 3 + 1, none⟩ = some (.slice (some ⟨go, 0, none⟩) (no + 1) co) := (World.cell?_of_block (hU'.block g hgl (by simp))).trans c1
  have z2 : w1.frozen? ⟨g, n * 3 + 1, none⟩ = false := (World.frozen?_of_block (hU'.block g hgl (by simp))).trans f1
  have hlt1 : X < w1.heap.size := hX'.lt
  have hlt2 : g < w1.heap.size := by omega
  simp at b0 b1 x0
  go_wp2
  go_quiet (fail)
  go_wp2
  go_region
  go_wp2
  have ho1 := (hU'.own hown (by simp)).alloc (.cells #[.bool b, .int .i64 m] 34)
  have ho2 := (ho1.stored (n * 3 + 1) (.slice (some ⟨go, 0, none⟩) no co)).1
  have ne1 : Value.ownBlock (.slice (some ⟨g, 0, none⟩) (n + 1) cap) ≠ some w.heap.size := by simp [Value.ownBlock]; omega
  have ho3 := ownsRow_setCell_other (a := ⟨w.heap.size, 1, none⟩) (ownsRow_setCell_other (a := ⟨w.heap.size, 0, none⟩) ho2 ne1 (.bool b)) ne1 (.int .i64 m)
  exact bodyPost_ret (v := .tuple #[.agg #[.bool b, .int .i64 m], .int .i64 0]) (by simp [results, Try.results31, go_sem, hs, b0, b1]) rfl
    ⟨rfl, ((((hX'.alloc (.cells #[.bool b, .int .i64 m] 34)).far (p := ⟨g, n * 3 + 1, none⟩) hXg (.slice (some ⟨go, 0, none⟩) no co))).far (p := ⟨w.heap.size, 0, none⟩) (by simp; omega) (.bool b)).far (p := ⟨w.heap.size, 1, none⟩) (by simp; omega) (.int .i64 m),
     ho3, (((((hU'.mono (F' := [g]) (by simp)).alloc _).drewN _).setCell (.inl (by simp)) _).setCell (.inr (by simp)) _).setCell (.inr (by simp)) _⟩

theorem rSetLocal_err (X : Nat) (i c : Int) (v : V2) (w : World) (hc : c ≠ 0) (hp : ∀ o, Calls Try.prog 33 #[.pointer (some ⟨X, 0, none⟩), .int .i64 i] (w.alloc o) fun e w' => e = .returned (.tuple #[.agg #[.bool false, .int .i64 0], .int .i64 c]) ∧ Upd (w.alloc o) w' []) :
    Calls Try.prog 34 #[.pointer (some ⟨X, 0, none⟩), .int .i64 i, v.val] w fun e w' => e = .returned (.int .i64 c) ∧ Upd w w' [] := by
  have Hp := hid hp
  clear hp
  have hc' : (c == 0) = false := by simpa using hc
  go_enter Try.func34, Try.ntmps34
  unfold V2.val
  go_wp2_with fail
  refine (Hp.out _).mono ?_
  rintro e w1 ⟨rfl, hU⟩
  have hU' : Upd w w1 [] := ((Upd.refl w _).alloc _).trans hU
  go_wp2
  go_ret
  exact ⟨rfl, hU'.alloc _⟩

set_option maxHeartbeats 800000 in
set_option maxRecDepth 100000 in
theorem rSetLocal_good (X g n cap nl cl gl i : Nat) (v : V2) (w : World) (hX : Blk w X 46 #[.slice (some ⟨g, 0, none⟩) (n + 1) cap]) (hn : n ≤ 4000) (hi : i < nl)
    (c0 : w.cell? ⟨g, n * 3, none⟩ = some (.slice (some ⟨gl, 0, none⟩) nl cl)) (ys : List V2) (hys : ys.length = nl) (hloc : w.ownsRow 0 34 2 (.slice (some ⟨gl, 0, none⟩) nl cl) nl (flat ys))
    (hp : ∀ o, Calls Try.prog 33 #[.pointer (some ⟨X, 0, none⟩), .int .i64 i] (w.alloc o) fun e w' => (∃ b m, e = .returned (.tuple #[.agg #[.bool b, .int .i64 m], .int .i64 0])) ∧ Upd (w.alloc o) w' []) :
    Calls Try.prog 34 #[.pointer (some ⟨X, 0, none⟩), .int .i64 i, v.val] w fun e w' => e = .returned (.int .i64 0) ∧
      w'.ownsRow 0 34 2 (.slice (some ⟨gl, 0, none⟩) nl cl) nl (((flat ys).set (i * 2) (.bool v.ref)).set (i * 2 + 1) (.int .i64 v.n)) ∧ Upd w w' [gl] := by
  have Hp := hid hp
  clear hp
  have hlt := hX.lt
  have hgl : g < w.heap.size := World.block_lt_of_cell? w _ c0
  obtain ⟨_, _, _, _, _, hgll⟩ := own_form hloc (by omega)
  have hgx : gl < w.heap.size := (hloc.lt gl rfl).2
  go_enter Try.func34, Try.ntmps34
  unfold V2.val
  go_wp2_with fail
  refine (Hp.out _).mono ?_
  rintro e w1 ⟨⟨b, m, rfl⟩, hU⟩
  have hU' : Upd w w1 [] := ((Upd.refl w _).alloc _).trans hU
  have hs : w.heap.size < w1.heap.size := by have := hU.size; simp at this; omega
  have hB := hU.blk (Blk.new w 34 #[.bool v.ref, .int .i64 v.n]) (by simp)
  have b0 := hB.cell 0
  have b1 := hB.cell 1
  have hX' := hU'.blk hX (by simp)
  have x0 := hX'.cell 0
  have z1 : w1.cell? ⟨g, n * 3, none⟩ = some (.slice (some ⟨gl, 0, none⟩) nl cl) := (World.cell?_of_block (hU'.block g hgl (by simp))).trans c0
  have ho1 := hU'.own hloc (by simp)
  obtain ⟨u0, y0⟩ : ∃ u, w1.cell? ⟨gl, i * 2, none⟩ = some u := ⟨_, (ho1.cellAt (i * 2) (by omega)).trans (flat_get0 ys i (by omega))⟩
  obtain ⟨u1, y1⟩ : ∃ u, w1.cell? ⟨gl, i * 2 + 1, none⟩ = some u := ⟨_, (ho1.cellAt (i * 2 + 1) (by omega)).trans (flat_get1 ys i (by omega))⟩
  have g0 := ho1.frozenAt (i * 2)
  have g1 := ho1.frozenAt (i * 2 + 1)
  have hlt1 : X < w1.heap.size := hX'.lt
  have hlt2 : g < w1.heap.size := by omega
  have hlt3 : gl < w1.heap.size := by omega
  simp at b0 b1 x0
  clear hys
  go_wp2
  go_region
  go_wp2
  go_ret
  exact ⟨rfl, (((ho1.stored (i * 2) _).1.stored (i * 2 + 1) _).1.alloc _), ((((hU'.mono (F' := [gl]) (by simp)).setCell (.inl (by simp)) _).setCell (.inl (by simp)) _).alloc _).drew⟩
end Go.Proofs.Ytgdjhbnnkadjeaa
