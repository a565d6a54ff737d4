/- The walks of package stack, fifth part: Enter. -/
import Derived.Test.YtgdjhbnnkadjeaaImplD
namespace Go.Proofs.Ytgdjhbnnkadjeaa
open Go.RowKit
/-! ### Enter -/
theorem run_make_rowN {P : Program} (t e : TypeId) (i : TypeInfo) (z : Value) (ht : P.underlying t = some (.slice e)) (hi : P.info? e = some i) (hz : i.zero = some z)
    (kl kc : IntKind) (n c : Nat) (hnc : n ≤ c) (hbytes : i.bytes * c ≤ 281474976710656) (h63 : c ≤ 9223372036854775807) (w : World) :
    (Instr.makeSlice t (.int kl (n : Int)) (.int kc (c : Int))).run P w = .ok (.slice (some ⟨w.heap.size, 0, none⟩) n c) (w.alloc (.cells (madeCells z.cells (c * i.size)) e)) := by
  have hb : (i.bytes : Int) * (c : Int) ≤ 281474976710656 := by
    have h : ((i.bytes * c : Nat) : Int) ≤ 281474976710656 := by omega
    rwa [Int.natCast_mul] at h
  have hr := run_make (P := P) w t e i z ht hi hz kl kc n c (by omega) (by omega) hb (by omega)
  simp only [Int.toNat_natCast] at hr
  exact hr

theorem Enter_nil (l r : Int) (w : World) : Calls Try.prog 9 #[.pointer none, .int .i64 l, .int .i64 r] w fun e w' => e = .returned (.int .i64 2) ∧ Upd w w' [] := by
  go_enter Try.func9, Try.ntmps9
  go_wp2
  go_ret
  exact ⟨rfl, Upd.refl _ _⟩
theorem Enter_bad (S : Nat) (l r : Int) (w : World) (h : l < 0 ∨ 40 < l ∨ r < 0 ∨ 40 < r) : Calls Try.prog 9 #[.pointer (some ⟨S, 0, none⟩), .int .i64 l, .int .i64 r] w fun e w' => e = .returned (.int .i64 2) ∧ Upd w w' [] := by
  by_cases h1 : l < 0
  · go_enter Try.func9, Try.ntmps9
    go_wp2
    go_ret
    exact ⟨rfl, Upd.refl _ _⟩
  by_cases h2 : 40 < l
  · go_enter Try.func9, Try.ntmps9
    go_wp2
    go_ret
    exact ⟨rfl, Upd.refl _ _⟩
  by_cases h3 : r < 0
  · go_enter Try.func9, Try.ntmps9
    go_wp2
    go_ret
    exact ⟨rfl, Upd.refl _ _⟩
  have h4 : 40 < r := by omega
  go_enter Try.func9, Try.ntmps9
  go_wp2
  go_ret
  exact ⟨rfl, Upd.refl _ _⟩
theorem make_locals (l : Nat) (hl : l ≤ 40) (w : World) : (Instr.makeSlice 30 (.int .i64 (l : Int)) (.int .i64 (l : Int))).run Try.prog w = .ok (.slice (some ⟨w.heap.size, 0, none⟩) l l) (w.alloc (.cells (madeCells #[.bool false, .int .i64 0] (l * 2)) 34)) := by
  obtain ⟨i0, hi0, hz0, hz1, hz2⟩ := info_parts info34
  have h := run_make_rowN (P := Try.prog) 30 34 i0 _ Try.underlying30 hi0 hz0 .i64 .i64 l l (Nat.le_refl _) (by rw [hz2]; omega) (by omega) w
  rw [hz1] at h
  exact h
theorem Enter_over (S l r words : Nat) (vf : Value) (w : World) (hl : l ≤ 40) (hr : r ≤ 40) (hw : words ≤ 4000) (ho : 4000 < words + l + r + 3) (hS : Blk w S 52 #[vf, .int .i64 words]) :
    Calls Try.prog 9 #[.pointer (some ⟨S, 0, none⟩), .int .i64 l, .int .i64 r] w fun e w' => e = .returned (.int .i64 33) ∧ Upd w w' [] := by
  have hmk := make_locals l hl
  have h1 := hS.cell 1
  simp at h1
  have hlt := hS.lt
  have n1 : ¬ ((l : Int) < 0) := by omega
  have n2 : ¬ (40 < (l : Int)) := by omega
  have n3 : ¬ ((r : Int) < 0) := by omega
  have n4 : ¬ (40 < (r : Int)) := by omega
  have ew : IntKind.i64.wrap ((words : Int) + ((l : Int) + r + 3)) = (words : Int) + ((l : Int) + r + 3) := IntWalk.i64_in _ (by omega)
  have n5 : (4000 : Int) < (words : Int) + ((l : Int) + r + 3) := by omega
  go_enter Try.func9, Try.ntmps9
  go_wp2
  clear hmk
  have Hb : Hid (Blk ((w.alloc (Obj.cells (madeCells #[Value.bool false, Value.int IntKind.i64 0] (l * 2)) 34)).alloc (Obj.cells #[Value.slice none 0 0, Value.int IntKind.i64 ↑r, Value.slice (some { block := w.heap.size, off := 0 }) l l] 57)) (w.heap.size + 1) 57 #[Value.slice none 0 0, Value.int IntKind.i64 ↑r, Value.slice (some { block := w.heap.size, off := 0 }) l l]) := Blk.new_at (by simp)
  go_region_with (go_at_call 23; refine (words_any _ _ r (some ⟨w.heap.size, 0, none⟩) l l _ hr hl (by exact Hb.out)).mono ?_; rintro e w' ⟨rfl, k', rfl⟩)
  all_goals go_wp2
  all_goals go_ret
  all_goals exact ⟨rfl, (((Upd.refl _ _).alloc _).alloc _).drewN _⟩

def EnterPost (S l r words n : Nat) (vf : Value) (ps : List Value) (w : World) (e : Ending) (w' : World) : Prop :=
  e = .returned (.int .i64 0) ∧ ∃ vf', Blk w' S 52 #[vf', .int .i64 ((words + (l + r + 3) : Nat) : Int)] ∧ w'.ownsRow 0 53 1 vf' (n + 1) (ps ++ [.pointer (some ⟨w.heap.size + 1, 0, none⟩)]) ∧
    Blk w' (w.heap.size + 1) 57 #[.slice none 0 0, .int .i64 r, .slice (some ⟨w.heap.size, 0, none⟩) l l] ∧ w'.ownsRow 0 34 2 (.slice (some ⟨w.heap.size, 0, none⟩) l l) l (flat (List.replicate l zero2)) ∧
    Upd w w' (S :: Value.ob vf) ∧ ∀ k, k ∈ Value.ob vf' → k ∈ Value.ob vf ∨ w.heap.size ≤ k
set_option maxHeartbeats 1000000 in
set_option maxRecDepth 100000 in
theorem Enter_good (S l r words n cap : Nat) (A : Option Addr) (ps : List Value) (w : World) (hl : l ≤ 40) (hr : r ≤ 40) (ho : words + l + r + 3 ≤ 4000) (hn : n ≤ 4000)
    (hS : Blk w S 52 #[.slice A n cap, .int .i64 words]) (hown : w.ownsRow 0 53 1 (.slice A n cap) n ps) :
    Calls Try.prog 9 #[.pointer (some ⟨S, 0, none⟩), .int .i64 l, .int .i64 r] w (EnterPost S l r words n (.slice A n cap) ps w) := by
  obtain ⟨i0, hi0, hz0, hz1, hz2⟩ := info_parts info53
  have hmk := make_locals l hl
  have h0 := hS.cell 0
  have h1 := hS.cell 1
  simp at h0 h1
  have hlt := hS.lt
  have n1 : ¬ ((l : Int) < 0) := by omega
  have n2 : ¬ (40 < (l : Int)) := by omega
  have n3 : ¬ ((r : Int) < 0) := by omega
  have n4 : ¬ (40 < (r : Int)) := by omega
  have ew : IntKind.i64.wrap ((words : Int) + ((l : Int) + r + 3)) = (words : Int) + ((l : Int) + r + 3) := IntWalk.i64_in _ (by omega)
  have n5 : (words : Int) + ((l : Int) + r + 3) ≤ (4000 : Int) := by omega
  have hne : Hid (S ∉ Value.ob (.slice A n cap)) := fun h => own_blk_ne hown hS (by decide) (mem_ob.1 h)
  go_enter Try.func9, Try.ntmps9
  go_wp2
  clear hmk
  have Hb : Hid (Blk ((w.alloc (Obj.cells (madeCells #[Value.bool false, Value.int IntKind.i64 0] (l * 2)) 34)).alloc (Obj.cells #[Value.slice none 0 0, Value.int IntKind.i64 ↑r, Value.slice (some { block := w.heap.size, off := 0 }) l l] 57)) (w.heap.size + 1) 57 #[Value.slice none 0 0, Value.int IntKind.i64 ↑r, Value.slice (some { block := w.heap.size, off := 0 }) l l]) := Blk.new_at (by simp)
  go_quiet ((go_at_call 23; exact Calls.quiet_of (words_any _ _ r (some ⟨w.heap.size, 0, none⟩) l l _ hr hl (by exact Hb.out))))
  go_wp2_with (at_builtin; go_must (refine wpList_append_one _ rfl (.tmp 44) (.tmp 46) 50 rfl 53 i0 _ 1 8 Try.underlying50 hi0 hz0 hz1 hz2 rfl (by decide) (by decide) (.slice A n cap) n ps rfl (by exact ((hown.alloc _).alloc _).alloc _) (by omega) (w.heap.size + 1 + 1) 53 #[.pointer (some ⟨w.heap.size + 1, 0, none⟩)] rfl (by exact Blk.new_at (by simp)) rfl rfl ?_); intro g' cap' w1 hown' hg' hat'; have hU : Upd w w1 (Value.ob (.slice A n cap)) := (((((Upd.refl w _).alloc _).alloc _).drewN _).alloc _).grown hg' (fun k hk => .inl (mem_ob.2 hk)); have hS1 := hU.blk hS hne.out; have q0 := hS1.cell 0; have q1 := hS1.cell 1; have p0 := hS1.frozen 0; have p1 := hS1.frozen 1; simp at q0 q1; have hlt1 := hS1.lt; have Hb1 : Hid (Blk w1 (w.heap.size + 1) 57 #[Value.slice none 0 0, Value.int IntKind.i64 ↑r, Value.slice (some { block := w.heap.size, off := 0 }) l l]) := Blk.grown_own (by exact (Hb.out.drewN _).alloc _) hg' (by exact ((hown.alloc _).alloc _).alloc _) (by decide); have Ho1 : Hid (w1.ownsRow 0 34 2 (.slice (some ⟨w.heap.size, 0, none⟩) l l) l (flat (List.replicate l zero2))) := own_grown_own (by exact (((own_made w l hl 34).alloc _).alloc _)) hg' (by exact ((hown.alloc _).alloc _).alloc _) (by decide); have hs1 : w.heap.size + 2 < w1.heap.size := by have := hg'.size; simp at this; omega)
  go_region_with (go_at_call 23; refine (words_any _ _ r (some ⟨w.heap.size, 0, none⟩) l l _ hr hl (by exact Hb1.out.far (by simp; omega) _)).mono ?_; rintro e w' ⟨rfl, k', rfl⟩)
  all_goals go_wp2
  all_goals go_ret
  all_goals
    have r1 := ((hS1.set_ 0 (.slice (some ⟨g', 0, none⟩) (n + 1) cap')).set_ 1 (.int .i64 ((words : Int) + ((l : Int) + r + 3))))
    have hne1 := own_blk_ne hown' hS1 (by decide)
    have hne2 := own_blk_ne Ho1.out hS1 (by decide)
    refine ⟨rfl, .slice (some ⟨g', 0, none⟩) (n + 1) cap', ?_, ?_, ?_, ?_, ?_, ?_⟩
    · exact r1
    · exact ownsRow_setCell_other (a := ⟨S, 1, none⟩) (ownsRow_setCell_other (a := ⟨S, 0, none⟩) hown' hne1 _) hne1 _
    · exact (Hb1.out.far (p := ⟨S, 0, none⟩) (by simp; omega) _).far (p := ⟨S, 1, none⟩) (by simp; omega) _
    · exact ownsRow_setCell_other (a := ⟨S, 1, none⟩) (ownsRow_setCell_other (a := ⟨S, 0, none⟩) Ho1.out hne2 _) hne2 _
    · exact ((((hU.mono (F' := S :: Value.ob (.slice A n cap)) (by intro b hb; simp [hb])).setCell (p := ⟨S, 0, none⟩) (.inl (by simp)) _).drewN _).setCell (p := ⟨S, 1, none⟩) (.inl (by simp)) _)
    · intro k hk
      have hk' := mem_ob.1 hk
      simp [Value.ownBlock] at hk'
      subst hk'
      rcases hat' with h | h
      · exact .inl (mem_ob.2 h)
      · right; rw [h]; simp; omega
end Go.Proofs.Ytgdjhbnnkadjeaa
