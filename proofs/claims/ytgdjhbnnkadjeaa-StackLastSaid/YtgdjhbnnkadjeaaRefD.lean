/- The walks of the reference, fourth part: Put, Enter. -/
import Derived.Test.YtgdjhbnnkadjeaaRefC
namespace Go.Proofs.Ytgdjhbnnkadjeaa
open Go.RowKit
theorem rPut_none (X cap : Nat) (A : Option Addr) (v : V2) (w : World) (hX : Blk w X 46 #[.slice A 0 cap]) :
    Calls Try.prog 30 #[.pointer (some ⟨X, 0, none⟩), v.val] w fun e w' => e = .returned (.int .i64 6) ∧ Upd w w' [] := by
  have h0 := hX.cell 0
  have hlt := hX.lt
  simp at h0
  go_enter Try.func30, Try.ntmps30
  unfold V2.val
  go_wp2
  go_ret
  exact ⟨rfl, (Upd.refl _ _).alloc _⟩
theorem rPut_bad (X g n cap no co : Nat) (B : Option Addr) (v : V2) (w : World) (hX : Blk w X 46 #[.slice (some ⟨g, 0, none⟩) (n + 1) cap]) (hn : n ≤ 4000)
    (c1 : w.cell? ⟨g, n * 3 + 1, none⟩ = some (.slice B no co)) (c2 : w.cell? ⟨g, n * 3 + 2, none⟩ = some (.int .i64 no)) :
    Calls Try.prog 30 #[.pointer (some ⟨X, 0, none⟩), v.val] w fun e w' => e = .returned (.int .i64 35) ∧ Upd w w' [] := by
  have h0 := hX.cell 0
  have hlt := hX.lt
  have hgl : g < w.heap.size := World.block_lt_of_cell? w _ c1
  simp at h0
  go_enter Try.func30, Try.ntmps30
  unfold V2.val
  go_wp2
  go_quiet (fail)
  go_wp2
  go_quiet (fail)
  go_wp2
  go_ret
  exact ⟨rfl, (((Upd.refl _ _).alloc _).drewN _).drewN _⟩

def rPutPost (X g n cap no : Nat) (vo : Value) (xs ys : List Value) (v : V2) (w : World) (e : Ending) (w' : World) : Prop :=
  e = .returned (.int .i64 0) ∧ ∃ vo', Blk w' X 46 #[.slice (some ⟨g, 0, none⟩) (n + 1) cap] ∧ w'.ownsRow 0 70 3 (.slice (some ⟨g, 0, none⟩) (n + 1) cap) (n + 1) (xs.set (n * 3 + 1) vo') ∧
    w'.ownsRow 0 34 2 vo' (no + 1) (ys ++ v.cells) ∧ (∀ k, k ∈ Value.ob vo' → k ∈ Value.ob vo ∨ w.heap.size ≤ k) ∧ Upd w w' (g :: Value.ob vo)

set_option maxHeartbeats 800000 in
set_option maxRecDepth 100000 in
theorem rPut_good (X g n cap no co room : Nat) (B : Option Addr) (xs ys : List Value) (v : V2) (w : World) (hX : Blk w X 46 #[.slice (some ⟨g, 0, none⟩) (n + 1) cap]) (hn : n ≤ 4000)
    (hr : no < room) (hr2 : room ≤ 40)
    (c1 : w.cell? ⟨g, n * 3 + 1, none⟩ = some (.slice B no co)) (c2 : w.cell? ⟨g, n * 3 + 2, none⟩ = some (.int .i64 room))
    (hrow : w.ownsRow 0 70 3 (.slice (some ⟨g, 0, none⟩) (n + 1) cap) (n + 1) xs) (hown : w.ownsRow 0 34 2 (.slice B no co) no ys) :
    Calls Try.prog 30 #[.pointer (some ⟨X, 0, none⟩), v.val] w (rPutPost X g n cap no (.slice B no co) xs ys v w) := by
  have h0 := hX.cell 0
  have hlt := hX.lt
  have hgl : g < w.heap.size := World.block_lt_of_cell? w _ c1
  have f1 := hrow.frozenAt (n * 3 + 1)
  simp at h0
  obtain ⟨i0, hi0, hz0, hz1, hz2⟩ := info_parts info34
  have hne : Hid (X ∉ Value.ob (.slice B no co)) := fun h => own_blk_ne hown hX (by decide) (mem_ob.1 h)
  have hne2 : Hid (g ∉ Value.ob (.slice B no co)) := fun h => own_own_ne hrow hown (by decide) rfl (mem_ob.1 h)
  have hne4 : Hid (∀ k, k ∈ Value.ob (.slice (some ⟨g, 0, none⟩) (n + 1) cap) → k ∉ Value.ob (.slice B no co)) := by
    intro k hk
    obtain rfl : g = k := by simpa [Value.ownBlock] using mem_ob.1 hk
    exact hne2.out
  have hXg : Hid (X ≠ g) := fun e => own_blk_ne hrow hX (by decide) (by simp [Value.ownBlock, e])
  have hd : (decide ((no : Int) = room)) = false := by simp; omega
  have hd2 : ((no : Int) == room) = false := by simp; omega
  go_enter Try.func30, Try.ntmps30
  unfold V2.val
  go_wp2
  go_quiet (fail)
  go_wp2
  go_quiet (fail)
  go_wp2
  go_region_law (refine step_append_one _ rfl (.tmp 37) (.tmp 39) 30 rfl 34 i0 _ 2 16 Try.underlying30 hi0 hz0 hz1 hz2 rfl (by decide) (by decide) (.slice B no co) no ys rfl (by exact (hown.alloc _).alloc _) (by omega) (w.heap.size + 1) 34 #[.bool v.ref, .int .i64 v.n] rfl (by exact Blk.new_at (by simp)) rfl rfl ?_; intro g' cap' w' hown' hg' hat'; have hU : Upd w w' (Value.ob (.slice B no co)) := ((((Upd.refl w _).alloc _).drewN _).alloc _).grown hg' (fun k hk => .inl (mem_ob.2 hk)); have hX' := hU.blk hX hne.out; have hrow' := hU.own hrow hne4.out; have c1' : w'.cell? ⟨g, n * 3 + 1, none⟩ = some (.slice B no co) := (World.cell?_of_block (hU.block g hgl hne2.out)).trans c1; have f1' := hrow'.frozenAt (n * 3 + 1))
  all_goals
    go_wp2
    go_ret
    have hne3 : Value.ownBlock (.slice (some ⟨g', 0, none⟩) (no + 1) cap') ≠ some g := own_own_ne hrow' hown' (by decide) rfl
    refine ⟨rfl, _, hX'.far (p := ⟨g, n * 3 + 1, none⟩) hXg.out _, (hrow'.stored (n * 3 + 1) _).1, ownsRow_setCell_other (a := ⟨g, n * 3 + 1, none⟩) hown' hne3 _, ?_, ?_⟩
    · intro k hk
      have hk' := mem_ob.1 hk
      simp [Value.ownBlock] at hk'
      subst hk'
      rcases hat' with h | h
      · exact .inl (mem_ob.2 h)
      · right; rw [h]; simp; omega
    · exact (hU.mono (by intro b hb; simp [hb])).setCell (by simp) _

def rEnterPost (X l r n : Nat) (vf : Value) (xs : List Value) (w : World) (e : Ending) (w' : World) : Prop :=
  e = .returned (.int .i64 0) ∧ ∃ vf' gl, Blk w' X 46 #[vf'] ∧ w'.ownsRow 0 70 3 vf' (n + 1) (xs ++ [.slice (some ⟨gl, 0, none⟩) l l, .slice none 0 0, .int .i64 r]) ∧
    w'.ownsRow 0 34 2 (.slice (some ⟨gl, 0, none⟩) l l) l (flat (List.replicate l zero2)) ∧ w.heap.size ≤ gl ∧ Upd w w' (X :: Value.ob vf) ∧ ∀ k, k ∈ Value.ob vf' → k ∈ Value.ob vf ∨ w.heap.size ≤ k

theorem rEnter_bad (X : Nat) (l r : Int) (w : World) (h : l < 0 ∨ 40 < l ∨ r < 0 ∨ 40 < r) : Calls Try.prog 28 #[.pointer (some ⟨X, 0, none⟩), .int .i64 l, .int .i64 r] w fun e w' => e = .returned (.int .i64 2) ∧ Upd w w' [] := by
  by_cases h1 : l < 0
  · go_enter Try.func28, Try.ntmps28
    go_wp2
    go_ret
    exact ⟨rfl, Upd.refl _ _⟩
  by_cases h2 : 40 < l
  · go_enter Try.func28, Try.ntmps28
    go_wp2
    go_ret
    exact ⟨rfl, Upd.refl _ _⟩
  by_cases h3 : r < 0
  · go_enter Try.func28, Try.ntmps28
    go_wp2
    go_ret
    exact ⟨rfl, Upd.refl _ _⟩
  have h4 : 40 < r := by omega
  go_enter Try.func28, Try.ntmps28
  go_wp2
  go_ret
  exact ⟨rfl, Upd.refl _ _⟩
set_option maxRecDepth 100000 in
theorem rEnter_over (X l r words : Nat) (w : World) (hl : l ≤ 40) (hr : r ≤ 40) (hw : words ≤ 4000) (ho : 4000 < words + l + r + 3)
    (hwd : Calls Try.prog 19 #[.pointer (some ⟨X, 0, none⟩)] w fun e w' => e = .returned (.int .i64 words) ∧ ∃ d, w' = w.drewN d) :
    Calls Try.prog 28 #[.pointer (some ⟨X, 0, none⟩), .int .i64 l, .int .i64 r] w fun e w' => e = .returned (.int .i64 33) ∧ Upd w w' [] := by
  have Hw := hid hwd
  clear hwd
  have n1 : ¬ ((l : Int) < 0) := by omega
  have n2 : ¬ (40 < (l : Int)) := by omega
  have n3 : ¬ ((r : Int) < 0) := by omega
  have n4 : ¬ (40 < (r : Int)) := by omega
  go_enter Try.func28, Try.ntmps28
  go_wp2_with fail
  refine Hw.out.mono ?_
  rintro e w1 ⟨rfl, d, rfl⟩
  have n5 : (4000 : Int) < (words : Int) + l + r + 3 := by omega
  go_wp2
  go_ret
  exact ⟨rfl, (Upd.refl _ _).drewN _⟩
set_option maxHeartbeats 1000000 in
set_option maxRecDepth 100000 in
theorem rEnter_good (X l r words n cap : Nat) (A : Option Addr) (xs : List Value) (w : World) (hl : l ≤ 40) (hr : r ≤ 40) (ho : words + l + r + 3 ≤ 4000) (hn : n ≤ 4000)
    (hX : Blk w X 46 #[.slice A n cap]) (hown : w.ownsRow 0 70 3 (.slice A n cap) n xs)
    (hwd : Calls Try.prog 19 #[.pointer (some ⟨X, 0, none⟩)] w fun e w' => e = .returned (.int .i64 words) ∧ ∃ d, w' = w.drewN d) :
    Calls Try.prog 28 #[.pointer (some ⟨X, 0, none⟩), .int .i64 l, .int .i64 r] w (rEnterPost X l r n (.slice A n cap) xs w) := by
  have Hw := hid hwd
  clear hwd
  obtain ⟨i0, hi0, hz0, hz1, hz2⟩ := info_parts info70
  have hmk := make_locals l hl
  have n1 : ¬ ((l : Int) < 0) := by omega
  have n2 : ¬ (40 < (l : Int)) := by omega
  have n3 : ¬ ((r : Int) < 0) := by omega
  have n4 : ¬ (40 < (r : Int)) := by omega
  go_enter Try.func28, Try.ntmps28
  go_wp2_with fail
  refine Hw.out.mono ?_
  rintro e w1 ⟨rfl, d, hd⟩
  have hU1 : Upd w w1 [] := by rw [hd]; exact (Upd.refl w []).drewN d
  clear hd
  replace hX := hU1.blk hX (by simp)
  replace hown := hU1.own hown (by simp)
  have hne : Hid (X ∉ Value.ob (.slice A n cap)) := fun h => own_blk_ne hown hX (by decide) (mem_ob.1 h)
  have h0 := hX.cell 0
  have f0 := hX.frozen 0
  have hlt := hX.lt
  simp at h0
  have n5 : (words : Int) + l + r + 3 ≤ (4000 : Int) := by omega
  go_wp2
  go_region_law (refine step_append_one _ rfl (.tmp 33) (.tmp 38) 44 rfl 70 i0 _ 3 56 Try.underlying44 hi0 hz0 hz1 hz2 rfl (by decide) (by decide) (.slice A n cap) n xs rfl (by exact (hown.alloc _).alloc _) (by omega) (w1.heap.size + 1) 70 #[.slice (some ⟨w1.heap.size, 0, none⟩) l l, .slice none 0 0, .int .i64 r] rfl (by exact Blk.drewN (Blk.new_at (by simp)) 1) rfl rfl ?_; intro g' cap' w' hown' hg' hat'; have hU : Upd w1 w' (Value.ob (.slice A n cap)) := ((((Upd.refl w1 _).alloc _).alloc _).drew).grown hg' (fun k hk => .inl (mem_ob.2 hk)); have hX' := hU.blk hX hne.out; have h0' := hX'.cell 0; have f0' := hX'.frozen 0; simp at h0'; have Ho1 : Hid (w'.ownsRow 0 34 2 (.slice (some ⟨w1.heap.size, 0, none⟩) l l) l (flat (List.replicate l zero2))) := own_grown_own (by exact ((own_made w1 l hl 34).alloc _)) hg' (by exact ((hown.alloc _).alloc _)) (by decide))
  all_goals
    go_wp2
    go_ret
    have hne1 := own_blk_ne hown' hX' (by decide)
    have hne2 := own_blk_ne Ho1.out hX' (by decide)
    exact ⟨rfl, _, w1.heap.size, hX'.set_ 0 _, ownsRow_setCell_other (a := ⟨X, 0, none⟩) hown' hne1 _, ownsRow_setCell_other (a := ⟨X, 0, none⟩) Ho1.out hne2 _, hU1.size, (hU1.mono (by simp)).trans <| (hU.mono (by intro b hb; simp [hb])).setCell (by simp) _, by
      intro k hk
      have hk' := mem_ob.1 hk
      simp [Value.ownBlock] at hk'
      subst hk'
      rcases hat' with h | h
      · exact .inl (mem_ob.2 h)
      · right; have := hU1.size; rw [h]; simp; omega⟩
end Go.Proofs.Ytgdjhbnnkadjeaa
