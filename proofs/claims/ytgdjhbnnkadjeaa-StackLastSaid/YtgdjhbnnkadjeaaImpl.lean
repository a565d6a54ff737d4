/-
  The walks of package stack: each method, by the cells that it finds.
-/
import Derived.Test.YtgdjhbnnkadjeaaRows
import Derived.Test.YtgdjhbnnkadjeaaBase
import Derived.Deep.QuietTactic
import Derived.BigQuiet
import Derived.WalkLawsBesides
import Derived.WalkSpells
import Derived.Deep.RegionLaw
namespace Go.Proofs.Ytgdjhbnnkadjeaa
open Go.RowKit

theorem info34 : (Try.prog.info? 34).map (fun i => (i.zero, i.size, i.bytes)) = some (some (.agg #[.bool false, .int .i64 0]), 2, 16) := by kernel_rfl
theorem info53 : (Try.prog.info? 53).map (fun i => (i.zero, i.size, i.bytes)) = some (some (.pointer none), 1, 8) := by kernel_rfl

theorem words_any (fb : Nat) (vo : Value) (room : Nat) (A : Option Addr) (ll lc : Nat) (w : World) (hr : room ≤ 40) (hl : ll ≤ 40)
    (hb : Blk w fb 57 #[vo, .int .i64 room, .slice A ll lc]) :
    Calls Try.prog 23 #[.pointer (some ⟨fb, 0, none⟩)] w fun e w' => e = .returned (.int .i64 (ll + room + 3)) ∧ ∃ k, w' = w.drewN k := by
  have c1 := hb.cell 1
  have c2 := hb.cell 2
  simp at c1 c2
  go_enter Try.func23, Try.ntmps23
  go_wp2
  go_quiet (fail)
  go_wp2
  go_ret
  exact ⟨rfl, _, rfl⟩

theorem peek_bad (fb : Nat) (A : Option Addr) (n cap : Nat) (k : Int) (r vl : Value) (w : World) (hk : k < 0 ∨ (n : Int) ≤ k) (hn : n ≤ 40)
    (hb : Blk w fb 57 #[.slice A n cap, r, vl]) :
    Calls Try.prog 35 #[.pointer (some ⟨fb, 0, none⟩), .int .i64 k] w fun e w' => e = .returned (.tuple #[.agg #[.bool false, .int .i64 0], .int .i64 35]) ∧ Upd w w' [] := by
  have c0 := hb.cell 0
  have hlt := hb.lt
  simp at c0
  rcases hk with hk | hk
  · go_enter Try.func35, Try.ntmps35
    go_wp2
    exact bodyPost_ret (v := .tuple #[.agg #[.bool false, .int .i64 0], .int .i64 35]) (by simp [results, Try.results35, go_sem]) rfl ⟨rfl, (Upd.refl _ _).alloc _⟩
  · have h2 : ¬ k < 0 := by omega
    go_enter Try.func35, Try.ntmps35
    go_wp2
    exact bodyPost_ret (v := .tuple #[.agg #[.bool false, .int .i64 0], .int .i64 35]) (by simp [results, Try.results35, go_sem]) rfl ⟨rfl, (Upd.refl _ _).alloc _⟩

theorem peek_good (fb g n cap : Nat) (k : Nat) (r vl : Value) (b : Bool) (m : Int) (w : World) (hk : k < n) (hn : n ≤ 40)
    (hb : Blk w fb 57 #[.slice (some ⟨g, 0, none⟩) n cap, r, vl])
    (h0 : w.cell? ⟨g, (n - 1 - k) * 2, none⟩ = some (.bool b)) (h1 : w.cell? ⟨g, (n - 1 - k) * 2 + 1, none⟩ = some (.int .i64 m)) :
    Calls Try.prog 35 #[.pointer (some ⟨fb, 0, none⟩), .int .i64 k] w fun e w' => e = .returned (.tuple #[.agg #[.bool b, .int .i64 m], .int .i64 0]) ∧ Upd w w' [] := by
  have c0 := hb.cell 0
  have hlt := hb.lt
  simp at c0
  have hgl : g < w.heap.size := World.block_lt_of_cell? w _ h0
  obtain ⟨j, hj, hjn⟩ : ∃ j : Nat, n - 1 - k = j ∧ j + k + 1 = n := ⟨n - 1 - k, rfl, by omega⟩
  rw [hj] at h0 h1
  clear hj
  obtain rfl : n = j + k + 1 := hjn.symm
  clear hjn
  have e1 : ((j : Int) + k + 1 - 1 - k) = j := by omega
  go_enter Try.func35, Try.ntmps35
  go_wp2
  go_region
  go_wp2
  exact bodyPost_ret (v := .tuple #[.agg #[.bool b, .int .i64 m], .int .i64 0]) (by simp [results, Try.results35, go_sem]) rfl ⟨rfl, ((Upd.refl _ _).alloc _).drew⟩

theorem put_bad (fb : Nat) (A : Option Addr) (n cap room : Nat) (vl : Value) (v : V2) (w : World) (hk : room ≤ n)
    (hb : Blk w fb 57 #[.slice A n cap, .int .i64 room, vl]) :
    Calls Try.prog 25 #[.pointer (some ⟨fb, 0, none⟩), v.val] w fun e w' => e = .returned (.int .i64 35) ∧ Upd w w' [] := by
  have c0 := hb.cell 0
  have c1 := hb.cell 1
  have hlt := hb.lt
  simp at c0 c1
  go_enter Try.func25, Try.ntmps25
  unfold V2.val
  go_wp2
  go_quiet (fail)
  go_wp2
  go_ret
  exact ⟨rfl, ((Upd.refl _ _).alloc _).drewN _⟩

def PutPost (fb room : Nat) (vo vl : Value) (n : Nat) (xs : List Value) (w : World) (e : Ending) (w' : World) : Prop :=
  e = .returned (.int .i64 0) ∧ ∃ vo', Blk w' fb 57 #[vo', .int .i64 room, vl] ∧ w'.ownsRow 0 34 2 vo' (n + 1) xs ∧ (∀ k, k ∈ Value.ob vo' → k ∈ Value.ob vo ∨ w.heap.size ≤ k) ∧ Upd w w' (fb :: Value.ob vo)

set_option maxHeartbeats 800000 in
theorem put_good (fb : Nat) (A : Option Addr) (n cap room : Nat) (vl : Value) (xs : List Value) (v : V2) (w : World) (hk : n < room) (hn : room ≤ 40)
    (hb : Blk w fb 57 #[.slice A n cap, .int .i64 room, vl])
    (hown : w.ownsRow 0 34 2 (.slice A n cap) n xs) :
    Calls Try.prog 25 #[.pointer (some ⟨fb, 0, none⟩), v.val] w (PutPost fb room (.slice A n cap) vl n (xs ++ v.cells) w) := by
  have c0 := hb.cell 0
  have c1 := hb.cell 1
  have f0 := hb.frozen 0
  have hlt := hb.lt
  simp at c0 c1
  obtain ⟨i0, hi0, hz0, hz1, hz2⟩ := info_parts info34
  have hne : Hid (fb ∉ Value.ob (.slice A n cap)) := fun h => own_blk_ne hown hb (by decide) (mem_ob.1 h)
  go_enter Try.func25, Try.ntmps25
  unfold V2.val
  go_wp2
  go_quiet (fail)
  go_wp2
  go_region_law (refine step_append_one _ rfl (.tmp 19) (.tmp 21) 30 rfl 34 i0 _ 2 16 Try.underlying30 hi0 hz0 hz1 hz2 rfl (by decide) (by decide) (.slice A n cap) n xs rfl (by exact (hown.alloc _).alloc _) (by omega) (w.heap.size + 1) 34 #[.bool v.ref, .int .i64 v.n] rfl (by exact Blk.new_at (by simp)) rfl rfl ?_; intro g' cap' w' hown' hg' hat'; have hU : Upd w w' (Value.ob (.slice A n cap)) := ((((Upd.refl w _).alloc _).drewN _).alloc _).grown hg' (fun k hk => .inl (mem_ob.2 hk)); have hb' := hU.blk hb hne.out; have c0' := hb'.cell 0; have f0' := hb'.frozen 0; simp at c0')
  all_goals
    go_wp2
    go_ret
    refine ⟨rfl, _, hb'.set_ 0 _, ?_, ?_, ?_⟩
    · exact ownsRow_setCell_other hown' (own_blk_ne hown' hb' (by decide)) _
    · intro k hk
      have hk' := mem_ob.1 hk
      simp [Value.ownBlock] at hk'
      subst hk'
      rcases hat' with h | h
      · exact .inl (mem_ob.2 h)
      · right; rw [h]; simp; omega
    · exact (hU.mono (by intro b hb; simp [hb])).setCell (by simp) _

theorem take_bad (fb : Nat) (A : Option Addr) (cap : Nat) (r vl : Value) (w : World)
    (hb : Blk w fb 57 #[.slice A 0 cap, r, vl]) :
    Calls Try.prog 27 #[.pointer (some ⟨fb, 0, none⟩)] w fun e w' => e = .returned (.tuple #[.agg #[.bool false, .int .i64 0], .int .i64 35]) ∧ Upd w w' [] := by
  have hlt := hb.lt
  go_enter Try.func27, Try.ntmps27
  go_wp2_with fail
  refine (peek_bad fb A 0 cap 0 r vl _ (by simp) (by simp) (hb.alloc _)).mono ?_
  rintro e w1 ⟨rfl, hU⟩
  have hU' : Upd w w1 [] := ((Upd.refl w _).alloc _).trans hU
  have hs : w.heap.size < w1.heap.size := by have := hU.size; simp at this; omega
  have hB := hU.blk (Blk.new w 34 #[.bool false, .int .i64 0]) (by simp)
  have b0 := hB.cell 0
  have b1 := hB.cell 1
  have d0 := hB.frozen 0
  have d1 := hB.frozen 1
  simp at b0 b1
  go_wp2
  exact bodyPost_ret (v := .tuple #[.agg #[.bool false, .int .i64 0], .int .i64 35]) (by simp [results, Try.results27, go_sem, hs, b0, b1]) rfl ⟨rfl, ((hU'.setCell (.inr (by simp)) _).setCell (.inr (by simp)) _).alloc _⟩

set_option maxHeartbeats 800000 in
theorem take_good (fb g n cap : Nat) (r vl : Value) (b : Bool) (m : Int) (w : World) (hn : n < 40) (hcap : n + 1 ≤ cap)
    (hb : Blk w fb 57 #[.slice (some ⟨g, 0, none⟩) (n + 1) cap, r, vl])
    (h0 : w.cell? ⟨g, n * 2, none⟩ = some (.bool b)) (h1 : w.cell? ⟨g, n * 2 + 1, none⟩ = some (.int .i64 m)) :
    Calls Try.prog 27 #[.pointer (some ⟨fb, 0, none⟩)] w fun e w' => e = .returned (.tuple #[.agg #[.bool b, .int .i64 m], .int .i64 0]) ∧
      Blk w' fb 57 #[.slice (some ⟨g, 0, none⟩) n cap, r, vl] ∧ Upd w w' [fb] := by
  have hlt := hb.lt
  have hgl : g < w.heap.size := World.block_lt_of_cell? w _ h0
  go_enter Try.func27, Try.ntmps27
  go_wp2_with fail
  refine (peek_good fb g (n + 1) cap 0 r vl b m _ (by omega) (by omega) (hb.alloc _) (by simpa [World.cell?_alloc_past _ _ _ hgl] using h0) (by simpa [World.cell?_alloc_past _ _ _ hgl] using h1)).mono ?_
  rintro e w1 ⟨rfl, hU⟩
  have hU' : Upd w w1 [] := ((Upd.refl w _).alloc _).trans hU
  have hs : w.heap.size < w1.heap.size := by have := hU.size; simp at this; omega
  have hB := hU.blk (Blk.new w 34 #[.bool false, .int .i64 0]) (by simp)
  have b0 := hB.cell 0
  have b1 := hB.cell 1
  have d0 := hB.frozen 0
  have d1 := hB.frozen 1
  have hF := hU'.blk hb (by simp)
  have x0 := hF.cell 0
  have y0 := hF.frozen 0
  have hlt1 := hF.lt
  simp at b0 b1 x0
  go_wp2
  go_region
  go_wp2
  have q1 := (((((hF.set_ 0 (.slice (some ⟨g, 0, none⟩) n cap)).far (p := ⟨w.heap.size, 0, none⟩) (by simp; omega) (.bool b)).far (p := ⟨w.heap.size, 1, none⟩) (by simp; omega) (.int .i64 m)).alloc (.cells #[.bool b, .int .i64 m] 34)))
  exact bodyPost_ret (v := .tuple #[.agg #[.bool b, .int .i64 m], .int .i64 0]) (by simp [results, Try.results27, go_sem, hs, b0, b1]) rfl
    ⟨rfl, q1, (((((hU'.mono (F' := [fb]) (by simp)).setCell (.inl (by simp)) _).setCell (.inr (by simp)) _).setCell (.inr (by simp)) _).alloc _).drew⟩
end Go.Proofs.Ytgdjhbnnkadjeaa
