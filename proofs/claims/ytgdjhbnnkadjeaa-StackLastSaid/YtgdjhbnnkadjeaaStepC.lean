/- The contracts of package stack by lists of frames: Peek, Local, SetLocal. -/
import Derived.Test.YtgdjhbnnkadjeaaStepB
namespace Go.Proofs.Ytgdjhbnnkadjeaa
open Go.RowKit
section
variable {w : World} {S : Nat} {vf : Value} {fs : List Fm}

def VPost (w : World) (r : V2 × Int) (e : Ending) (w' : World) : Prop := e = .returned (.tuple #[r.1.val, .int .i64 r.2]) ∧ Upd w w' []

theorem own_get {w : World} {g cap n : Nat} {ys : List V2} (h : w.ownsRow 0 34 2 (.slice (some ⟨g, 0, none⟩) n cap) n (flat ys)) (hn : ys.length = n) (j : Nat) (hj : j < n) :
    w.cell? ⟨g, j * 2, none⟩ = some (.bool (ys.getD j zero2).ref) ∧ w.cell? ⟨g, j * 2 + 1, none⟩ = some (.int .i64 (ys.getD j zero2).n) := by
  have x0 := (h.cellAt (j * 2) (by omega)).trans (flat_get0 ys j (by omega))
  have x1 := (h.cellAt (j * 2 + 1) (by omega)).trans (flat_get1 ys j (by omega))
  have e : ys.getD j zero2 = ys[j]'(by omega) := by simp [List.getD, List.getElem?_eq_getElem (show j < ys.length by omega)]
  rw [e]
  exact ⟨x0, x1⟩

theorem iPeek (h : Stk w S vf fs) (k : Int) : Calls Try.prog 22 #[.pointer (some ⟨S, 0, none⟩), .int .i64 k] w (VPost w (sPeek (abs fs) k)) := by
  rcases last_cases fs with rfl | ⟨i, f, rfl⟩
  · obtain ⟨A, cap, rfl⟩ := h.nil_
    exact (Peek_none S cap A _ k w h.blk).mono fun e w' ⟨he, hU⟩ => ⟨he, hU⟩
  · obtain ⟨g, cap, rfl, h1, h2, h3⟩ := h.top
    have hf := h.ok f (by simp)
    have hb := hf.blk
    have ho := hf.ops
    have h40 : f.ops.length ≤ 40 := Nat.le_trans hf.fits.ops hf.fits.room
    rw [abs_snoc]
    by_cases hbad : k < 0 ∨ (f.ops.length : Int) ≤ k
    · obtain ⟨A, c, hv, _⟩ := own_slice ho
      rw [hv] at hb
      have e1 : sPeek (abs i ++ [f.m]) k = (zero2, 35) := by
        simp only [sPeek, onTop_snoc, Fm.m]
        rw [if_pos hbad]
      rw [e1]
      exact (Peek_some S g i.length cap f.fb _ k _ false 0 35 w h1 h2 h.blk h3 hb (fun W hW => peek_bad f.fb A f.ops.length c k _ _ W hbad h40 (hW.blk hb (by simp)))).mono fun e w' ⟨he, hU⟩ => ⟨he, hU⟩
    · obtain ⟨n, rfl⟩ : ∃ n : Nat, k = n := ⟨k.toNat, by omega⟩
      have hn : n < f.ops.length := by omega
      obtain ⟨go, c, hv, hc1, hc2, hc3⟩ := own_form ho (by omega)
      rw [hv] at hb ho
      obtain ⟨x0, x1⟩ := own_get ho rfl (f.ops.length - 1 - n) (by omega)
      have e1 : sPeek (abs i ++ [f.m]) n = (f.ops.getD (f.ops.length - 1 - n) zero2, 0) := by
        simp only [sPeek, onTop_snoc, Fm.m]
        rw [if_neg hbad]
        simp
      rw [e1]
      exact (Peek_some S g i.length cap f.fb _ n _ _ _ 0 w h1 h2 h.blk h3 hb (fun W hW => peek_good f.fb go f.ops.length c n _ _ _ _ W hn h40 (hW.blk hb (by simp)) ((World.cell?_of_block (hW.block go hc3 (by simp))).trans x0) ((World.cell?_of_block (hW.block go hc3 (by simp))).trans x1))).mono fun e w' ⟨he, hU⟩ => ⟨he, hU⟩

theorem same_drew {P : Program} {f : FuncId} {args : Array Value} {w : World} {e0 : Ending} (h : Calls P f args w fun e w' => e = e0 ∧ w = w') : Calls P f args w fun e w' => e = e0 ∧ ∃ k, w' = w.drewN k :=
  h.mono fun _ _ ⟨he, hw⟩ => ⟨he, 0, hw.symm⟩

theorem iLocal (h : Stk w S vf fs) (k : Int) : Calls Try.prog 15 #[.pointer (some ⟨S, 0, none⟩), .int .i64 k] w (VPost w (sLocal (abs fs) k)) := by
  rcases last_cases fs with rfl | ⟨i, f, rfl⟩
  · obtain ⟨A, cap, rfl⟩ := h.nil_
    exact (Local_err _ k 6 w (by decide) (fun o => same_drew (local_none S cap A _ k _ (h.blk.alloc o)))).mono fun e w' ⟨he, hU⟩ => ⟨he, hU⟩
  · obtain ⟨g, cap, rfl, h1, h2, h3⟩ := h.top
    have hf := h.ok f (by simp)
    have hb := hf.blk
    have ho := hf.locs
    have h40 := hf.fits.locs
    have hp : ∀ o, (w.alloc o).cell? ⟨g, i.length, none⟩ = some (.pointer (some ⟨f.fb, 0, none⟩)) := fun o => by rw [World.cell?_alloc_lt w o _ (World.block_lt_of_cell? w _ h3)]; exact h3
    rw [abs_snoc]
    by_cases hbad : k < 0 ∨ (f.locs.length : Int) ≤ k
    · obtain ⟨A, c, hv, _⟩ := own_slice ho
      rw [hv] at hb
      have e1 : sLocal (abs i ++ [f.m]) k = (zero2, 3) := by
        simp only [sLocal, onTop_snoc, Fm.m]
        rw [if_pos hbad]
      rw [e1]
      exact (Local_err _ k 3 w (by decide) (fun o => local_bad S g i.length cap f.fb f.locs.length c A _ k _ _ _ h1 h2 hbad h40 (h.blk.alloc o) (hp o) (hb.alloc o))).mono fun e w' ⟨he, hU⟩ => ⟨he, hU⟩
    · obtain ⟨n, rfl⟩ : ∃ n : Nat, k = n := ⟨k.toNat, by omega⟩
      have hn : n < f.locs.length := by omega
      obtain ⟨gl, c, hv, hc1, hc2, hc3⟩ := own_form ho (by omega)
      rw [hv] at hb ho
      obtain ⟨x0, x1⟩ := own_get ho rfl n hn
      have e1 : sLocal (abs i ++ [f.m]) n = (f.locs.getD n zero2, 0) := by
        simp only [sLocal, onTop_snoc, Fm.m]
        rw [if_neg hbad]
        simp
      rw [e1]
      exact (Local_ok _ n gl (n * 2) _ _ w (fun o => local_good S g i.length cap f.fb f.locs.length c gl n _ _ _ _ h1 h2 hn h40 (h.blk.alloc o) (hp o) (hb.alloc o)) x0 x1).mono fun e w' ⟨he, hU⟩ => ⟨he, hU⟩

theorem flat_set (l : List V2) (n : Nat) (v : V2) (hn : n < l.length) : ((flat l).set (n * 2) (.bool v.ref)).set (n * 2 + 1) (.int .i64 v.n) = flat (l.set n v) := by
  induction l generalizing n with
  | nil => simp at hn
  | cons a l ih =>
    rw [show flat (a :: l) = .bool a.ref :: .int .i64 a.n :: flat l from rfl]
    cases n with
    | zero => simp [flat, V2.cells]
    | succ n =>
      rw [show (n + 1) * 2 = n * 2 + 1 + 1 by omega]
      simp only [List.set_cons_succ]
      rw [ih n (by simpa using hn)]
      rfl

theorem iSet (h : Stk w S vf fs) (k : Int) (v : V2) : Calls Try.prog 14 #[.pointer (some ⟨S, 0, none⟩), .int .i64 k, v.val] w
    (IPost S vf fs w (sSet (abs fs) k v).1 (.returned (.int .i64 (sSet (abs fs) k v).2))) := by
  rcases last_cases fs with rfl | ⟨i, f, rfl⟩
  · obtain ⟨A, cap, rfl⟩ := h.nil_
    exact (SetLocal_err _ k 6 v w (by decide) (fun o => same_drew (local_none S cap A _ k _ (h.blk.alloc o)))).mono fun e w' ⟨he, hU⟩ => IPost.of_same h hU rfl he
  · obtain ⟨g, cap, rfl, h1, h2, h3⟩ := h.top
    have hf := h.ok f (by simp)
    have hb := hf.blk
    have ho := hf.locs
    have h40 := hf.fits.locs
    have hp : ∀ o, (w.alloc o).cell? ⟨g, i.length, none⟩ = some (.pointer (some ⟨f.fb, 0, none⟩)) := fun o => by rw [World.cell?_alloc_lt w o _ (World.block_lt_of_cell? w _ h3)]; exact h3
    rw [abs_snoc]
    by_cases hbad : k < 0 ∨ (f.locs.length : Int) ≤ k
    · obtain ⟨A, c, hv, _⟩ := own_slice ho
      rw [hv] at hb
      have e1 : sSet (abs i ++ [f.m]) k v = (abs i ++ [f.m], 3) := by
        simp only [sSet, onTop_snoc, Fm.m]
        rw [if_pos hbad]
      rw [e1]
      exact (SetLocal_err _ k 3 v w (by decide) (fun o => local_bad S g i.length cap f.fb f.locs.length c A _ k _ _ _ h1 h2 hbad h40 (h.blk.alloc o) (hp o) (hb.alloc o))).mono fun e w' ⟨he, hU⟩ => IPost.of_same h hU (abs_snoc i f) he
    · obtain ⟨n, rfl⟩ : ∃ n : Nat, k = n := ⟨k.toNat, by omega⟩
      have hn : n < f.locs.length := by omega
      obtain ⟨gl, c, hv, hc1, hc2, hc3⟩ := own_form ho (by omega)
      rw [hv] at hb ho
      obtain ⟨x0, x1⟩ := own_get ho rfl n hn
      have f0 := ho.frozenAt (n * 2)
      have f1 := ho.frozenAt (n * 2 + 1)
      have e1 : sSet (abs i ++ [f.m]) n v = (abs i ++ [{ f.m with locs := f.locs.set n v }], 0) := by
        simp only [sSet, onTop_snoc, Fm.m]
        rw [if_neg hbad]
        simp
      rw [e1]
      refine (SetLocal_ok _ n gl (n * 2) v _ _ w (fun o => local_good S g i.length cap f.fb f.locs.length c gl n _ _ _ _ h1 h2 hn h40 (h.blk.alloc o) (hp o) (hb.alloc o)) x0 x1 f0 f1).mono ?_
      rintro e w' ⟨he, d, o, rfl⟩
      have hU : Upd w ((((w.alloc o).drewN d).setCell ⟨gl, n * 2, none⟩ (.bool v.ref)).setCell ⟨gl, n * 2 + 1, none⟩ (.int .i64 v.n)) [gl] :=
        (((((Upd.refl w _).alloc o).drewN d).setCell (.inl (by simp)) _).setCell (.inl (by simp)) _)
      have hl := (((ho.alloc o).stored (n * 2) (.bool v.ref)).1.stored (n * 2 + 1) (.int .i64 v.n)).1
      rw [flat_set _ _ _ hn] at hl
      have hnd := nodup_vals h (f := f) (by simp)
      have hgl : gl ∈ Value.ob f.vl := by rw [hv]; simp [Value.ob, Value.ownBlock]
      obtain ⟨hs, hk⟩ := h.turn (w' := _) (f' := { f with locs := f.locs.set n v }) (hU.mono (by intro b hb2; simp at hb2; subst hb2; simp [Fm.vals, hgl])) rfl (by simp [Fm.words])
        ⟨hU.blk hf.blk (by
            intro h5
            simp at h5
            have := own_ty hf.locs hgl
            rw [← h5, hf.blk.ty] at this
            simp at this), hU.own hf.ops (fun k hk hk2 => by
            simp at hk2
            subst hk2
            exact (List.nodup_append.1 hnd).2.2 k hk k hgl rfl), by
          show World.ownsRow _ 0 34 2 f.vl (f.locs.set n v).length (flat (f.locs.set n v))
          rw [hv, List.length_set]
          exact hl, ⟨hf.fits.ops, hf.fits.room, by simpa using hf.fits.locs⟩⟩
        (fun k hk => .inl hk) hnd
      exact ⟨he, _, _, hs, by rw [abs_snoc]; rfl, hk⟩
end
end Go.Proofs.Ytgdjhbnnkadjeaa
