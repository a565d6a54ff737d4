/- The contracts of package stack by lists of frames: Leave, Put, Take. -/
import Derived.Test.YtgdjhbnnkadjeaaStepA
namespace Go.Proofs.Ytgdjhbnnkadjeaa
open Go.RowKit
section
variable {w : World} {S : Nat} {vf : Value} {fs : List Fm}

theorem nodup_vals (h : Stk w S vf fs) {f : Fm} (hf : f ∈ fs) : f.vals.Nodup := by
  have := h.vbs
  clear h
  induction fs with
  | nil => simp at hf
  | cons a t ih =>
    rw [show a :: t = [a] ++ t from rfl, vb_append, List.nodup_append] at this
    simp only [List.mem_cons] at hf
    rcases hf with rfl | hf
    · simpa [vb] using this.1
    · exact ih hf this.2.1
theorem vals_mk {f : Fm} {vo : Value} (h : (Value.ob f.vo ++ Value.ob f.vl).Nodup) {N : Nat} (hv : ∀ k, k ∈ Value.ob vo → k ∈ Value.ob f.vo ∨ N ≤ k) (hl : ∀ k, k ∈ Value.ob f.vl → k < N) : (Value.ob vo ++ Value.ob f.vl).Nodup := by
  rw [List.nodup_append] at h ⊢
  refine ⟨ob_nodup _, h.2.1, ?_⟩
  rintro a ha b hb rfl
  rcases hv a ha with h1 | h1
  · exact h.2.2 a h1 a hb rfl
  · have := hl a hb; omega

theorem iLeave (h : Stk w S vf fs) : Calls Try.prog 11 #[.pointer (some ⟨S, 0, none⟩)] w
    (IPost S vf fs w (sLeave (abs fs)).1 (.returned (.int .i64 (sLeave (abs fs)).2))) := by
  rcases last_cases fs with rfl | ⟨i, f, rfl⟩
  · obtain ⟨A, cap, rfl⟩ := h.nil_
    refine (leave_empty S cap A _ w h.blk).mono ?_
    rintro e w' ⟨he, rfl⟩
    exact IPost.of_same h (Upd.refl _ _) rfl he
  · obtain ⟨g, cap, rfl, h1, h2, h3⟩ := h.top
    have hf := h.ok f (by simp)
    have hw := h.words
    obtain ⟨A, c, hv, _⟩ := own_slice hf.locs
    have hb := hf.blk
    rw [hv] at hb
    have e0 : wsum (i ++ [f]) = wsum i + (f.locs.length + f.room + 3) := by rw [wsum_append]; simp [wsum, Fm.words]
    have hS := h.blk
    rw [e0] at hS hw
    have e1 : sLeave (abs (i ++ [f])) = (abs i, 0) := by rw [abs_append, show abs [f] = [f.m] from rfl]; simp [sLeave, onTop_snoc]
    rw [e1]
    refine (leave_some S g i.length cap f.fb f.room (wsum i) f.locs.length c f.vo A w h1 h2 (by omega) hf.fits.room hf.fits.locs hS h3 hb).mono ?_
    rintro e w' ⟨he, hb', hU⟩
    refine ⟨he, .slice (some ⟨g, 0, none⟩) i.length cap, i, ⟨hb', ?_, ?_, ?_, ?_, by omega⟩, rfl, ?_, ?_, ?_⟩
    · have hr := h.row
      rw [show (i ++ [f]).length = i.length + 1 by simp] at hr
      have hc := own_cut hr i.length (by omega)
      rw [ptrs_append, Nat.mul_one, List.take_left' (by simp [ptrs])] at hc
      refine hU.own hc fun k hk => ?_
      have := own_ty hc hk
      intro hk2
      simp at hk2
      subst hk2
      rw [h.blk.ty] at this
      simp at this
    · intro x hx
      have hxo := h.ok x (by simp [hx])
      refine hxo.upd hU ?_ ?_
      · intro hk
        simp at hk
        have := hxo.blk.ty
        rw [hk, h.blk.ty] at this
        simp at this
      · intro k hk hk2
        simp at hk2
        have := hxo.val_ty hk
        rw [hk2, h.blk.ty] at this
        simp at this
    · have := h.fbs
      rw [List.map_append, List.nodup_append] at this
      exact this.1
    · have := h.vbs
      rw [vb_append, List.nodup_append] at this
      exact this.1
    · exact hU.mono (by intro b hb; simp at hb; simp [fpI, hb])
    · intro k hk
      simp only [fpI, vb_append, List.map_append, List.mem_cons, List.mem_append] at hk ⊢
      rcases hk with hk | hk | hk | hk
      · exact .inl (.inl hk)
      · exact .inl (.inr (.inl (by simpa [Value.ob, Value.ownBlock] using hk)))
      · exact .inl (.inr (.inr (.inl (.inl hk))))
      · exact .inl (.inr (.inr (.inr (.inl hk))))
    · intro k hk
      rw [vb_append]
      exact .inl (by simp [hk])

theorem abs_snoc (i : List Fm) (f : Fm) : abs (i ++ [f]) = abs i ++ [f.m] := by rw [abs_append]; rfl

theorem iPut (h : Stk w S vf fs) (v : V2) : Calls Try.prog 13 #[.pointer (some ⟨S, 0, none⟩), v.val] w
    (IPost S vf fs w (sPut (abs fs) v).1 (.returned (.int .i64 (sPut (abs fs) v).2))) := by
  rcases last_cases fs with rfl | ⟨i, f, rfl⟩
  · obtain ⟨A, cap, rfl⟩ := h.nil_
    refine (put_none S cap A _ v w h.blk).mono ?_
    rintro e w' ⟨he, hU⟩
    exact IPost.of_same h hU rfl he
  · obtain ⟨g, cap, rfl, h1, h2, h3⟩ := h.top
    have hf := h.ok f (by simp)
    obtain ⟨A, c, hv, _⟩ := own_slice hf.ops
    have hb := hf.blk
    have ho := hf.ops
    rw [hv] at hb ho
    have hall : ∀ k o, Upd w ((w.alloc o).drewN k) [] := fun k o => ((Upd.refl w _).alloc o).drewN k
    rw [abs_snoc]
    by_cases hfull : f.room ≤ f.ops.length
    · have e1 : sPut (abs i ++ [f.m]) v = (abs i ++ [f.m], 35) := by simp [sPut, onTop_snoc, Fm.m, hfull]
      rw [e1]
      refine (put_some (R := fun e w' => e = .returned (.int .i64 35) ∧ Upd w w' []) S g i.length cap f.fb _ _ v w h1 h2 h.blk h3 hb (fun k => ?_) (fun e w' hR => ⟨35, hR.1⟩)).mono ?_
      · exact (put_bad f.fb A f.ops.length c f.room f.vl v _ hfull ((hall k _).blk hb (by simp))).mono fun e w' ⟨he, hU⟩ => ⟨he, (hall k _).trans hU⟩
      · rintro e w' ⟨he, hU⟩
        exact IPost.of_same h hU (abs_snoc i f) he
    · have e1 : sPut (abs i ++ [f.m]) v = (abs i ++ [{ f.m with ops := f.ops ++ [v] }], 0) := by simp [sPut, onTop_snoc, Fm.m, hfull]
      rw [e1]
      refine (put_some (R := fun e w' => e = .returned (.int .i64 0) ∧ ∃ vo', Blk w' f.fb 57 #[vo', .int .i64 f.room, f.vl] ∧ w'.ownsRow 0 34 2 vo' (f.ops.length + 1) (flat f.ops ++ v.cells) ∧ (∀ k, k ∈ Value.ob vo' → k ∈ Value.ob (.slice A f.ops.length c) ∨ w.heap.size ≤ k) ∧ Upd w w' (f.fb :: Value.ob (.slice A f.ops.length c)))
        S g i.length cap f.fb _ _ v w h1 h2 h.blk h3 hb (fun k => ?_) (fun e w' hR => ⟨0, hR.1⟩)).mono ?_
      · refine (put_good f.fb A f.ops.length c f.room f.vl (flat f.ops) v _ (by omega) hf.fits.room ((hall k _).blk hb (by simp)) ((hall k _).own ho (by simp))).mono ?_
        rintro e w' ⟨he, vo', hb', hown', hat', hU⟩
        refine ⟨he, vo', hb', hown', fun k hk => ?_, ((hall _ _).mono (by simp)).trans hU⟩
        rcases hat' k hk with h4 | h4
        · exact .inl h4
        · exact .inr (Nat.le_trans (hall _ _).size h4)
      · rintro e w' ⟨he, vo', hb', hown', hat', hU⟩
        rw [← hv] at hat' hU
        have hnd := nodup_vals h (f := f) (by simp)
        obtain ⟨hs, hk⟩ := h.turn (w' := w') (f' := { f with vo := vo', ops := f.ops ++ [v] }) (hU.mono (by intro b hb; simp only [List.mem_cons] at hb; simp only [Fm.vals, List.mem_cons, List.mem_append]; rcases hb with hb | hb; exact .inl hb; exact .inr (.inl hb))) rfl rfl
          ⟨hb', by rw [List.length_append, flat_append]; simpa [flat] using hown', (hU.own hf.locs fun k hk hk2 => by
            simp only [List.mem_cons] at hk2
            rcases hk2 with rfl | hk2
            · have := own_ty hf.locs hk
              rw [hf.blk.ty] at this
              simp at this
            · exact (List.nodup_append.1 hnd).2.2 k hk2 k hk rfl), ⟨by simp; omega, hf.fits.room, hf.fits.locs⟩⟩
          (by
            intro k hk
            simp only [Fm.vals, List.mem_append] at hk ⊢
            rcases hk with hk | hk
            · rcases hat' k hk with h4 | h4
              · exact .inl (.inl h4)
              · exact .inr h4
            · exact .inl (.inr hk))
          (by exact vals_mk (f := f) hnd hat' fun k hk => own_lt hf.locs hk)
        exact ⟨he, _, _, hs, by rw [abs_snoc]; rfl, hk⟩

theorem flat_last (l : List V2) (v : V2) : (flat (l ++ [v]))[l.length * 2]? = some (.bool v.ref) ∧ (flat (l ++ [v]))[l.length * 2 + 1]? = some (.int .i64 v.n) := by
  have h0 := flat_get0 (l ++ [v]) l.length (by simp)
  have h1 := flat_get1 (l ++ [v]) l.length (by simp)
  simpa using And.intro h0 h1

theorem iTake (h : Stk w S vf fs) : Calls Try.prog 17 #[.pointer (some ⟨S, 0, none⟩)] w
    (IPost S vf fs w (sTake (abs fs)).1 (.returned (.tuple #[(sTake (abs fs)).2.1.val, .int .i64 (sTake (abs fs)).2.2]))) := by
  rcases last_cases fs with rfl | ⟨i, f, rfl⟩
  · obtain ⟨A, cap, rfl⟩ := h.nil_
    refine (Take_none S cap A _ w h.blk).mono ?_
    rintro e w' ⟨he, hU⟩
    exact IPost.of_same h hU rfl he
  · obtain ⟨g, cap, rfl, h1, h2, h3⟩ := h.top
    have hf := h.ok f (by simp)
    have hb := hf.blk
    have ho := hf.ops
    rw [abs_snoc]
    rcases last_cases f.ops with hnil | ⟨l, v, hl⟩
    · rw [hnil] at ho
      obtain ⟨A, c, hv, _⟩ := own_slice ho
      rw [hv] at hb
      have e1 : sTake (abs i ++ [f.m]) = (abs i ++ [f.m], zero2, 35) := by simp [sTake, onTop_snoc, Fm.m, hnil]
      rw [e1]
      refine (Take_some S g i.length cap f.fb _ _ #[.slice A 0 c, .int .i64 f.room, f.vl] false 0 35 w h1 h2 h.blk h3 hb (fun W hW => ?_)).mono ?_
      · exact (take_bad f.fb A c _ _ W (hW.blk hb (by simp))).mono fun e w' ⟨he, hU⟩ => ⟨he, hU.blk (hW.blk hb (by simp)) (by simp), hU.mono (by simp)⟩
      · rintro e w' ⟨he, hb', hU⟩
        have hb'' : Blk w' f.fb 57 #[f.vo, .int .i64 f.room, f.vl] := by rw [hv]; exact hb'
        obtain ⟨hs, hk⟩ := h.turn (w' := w') (f' := f) (hU.mono (by simp)) rfl rfl
          ⟨hb'', hU.own hf.ops fun k hk hk2 => by
            simp at hk2
            have := own_ty hf.ops hk
            rw [hk2, hf.blk.ty] at this
            simp at this, hU.own hf.locs fun k hk hk2 => by
            simp at hk2
            have := own_ty hf.locs hk
            rw [hk2, hf.blk.ty] at this
            simp at this, hf.fits⟩ (fun k hk => .inl hk) (nodup_vals h (by simp))
        exact ⟨he, _, _, hs, by rw [abs_snoc], hk⟩
    · rw [hl] at ho
      rw [show (l ++ [v]).length = l.length + 1 by simp] at ho
      obtain ⟨go, c, hv, hc1, hc2, hc3⟩ := own_form ho (by omega)
      rw [hv] at hb ho
      have hlen : l.length < 40 := by have h5 := hf.fits.ops; have h6 := hf.fits.room; rw [hl] at h5; simp at h5; omega
      have x0 := (ho.cellAt (l.length * 2) (by omega)).trans (flat_last l v).1
      have x1 := (ho.cellAt (l.length * 2 + 1) (by omega)).trans (flat_last l v).2
      have e1 : sTake (abs i ++ [f.m]) = (abs i ++ [{ f.m with ops := l }], v, 0) := by simp [sTake, onTop_snoc, Fm.m, hl]
      rw [e1]
      refine (Take_some S g i.length cap f.fb _ _ #[.slice (some ⟨go, 0, none⟩) l.length c, .int .i64 f.room, f.vl] v.ref v.n 0 w h1 h2 h.blk h3 hb (fun W hW => ?_)).mono ?_
      · exact take_good f.fb go l.length c _ _ v.ref v.n W hlen hc1 (hW.blk hb (by simp)) ((World.cell?_of_block (hW.block go hc3 (by simp))).trans x0) ((World.cell?_of_block (hW.block go hc3 (by simp))).trans x1)
      · rintro e w' ⟨he, hb', hU⟩
        have hcut := own_cut ho l.length (by omega)
        rw [flat_append, List.take_left' (flat_length l)] at hcut
        obtain ⟨hs, hk⟩ := h.turn (w' := w') (f' := { f with vo := .slice (some ⟨go, 0, none⟩) l.length c, ops := l }) (hU.mono (by simp)) rfl rfl
          ⟨hb', hU.own hcut fun k hk hk2 => by
            simp at hk2
            have := own_ty hcut hk
            rw [hk2, hf.blk.ty] at this
            simp at this, hU.own hf.locs fun k hk hk2 => by
            simp at hk2
            have := own_ty hf.locs hk
            rw [hk2, hf.blk.ty] at this
            simp at this, ⟨by have := hf.fits.ops; rw [hl] at this; simp at this ⊢; omega, hf.fits.room, hf.fits.locs⟩⟩
          (by
            intro k hk
            simp only [Fm.vals, List.mem_append] at hk ⊢
            rw [hv]
            exact .inl (by simpa [Value.ob, Value.ownBlock] using hk))
          (by
            have := nodup_vals h (f := f) (by simp)
            simp only [Fm.vals] at this ⊢
            rw [hv] at this
            simpa [Value.ob, Value.ownBlock] using this)
        exact ⟨he, _, _, hs, by rw [abs_snoc]; rfl, hk⟩
end
end Go.Proofs.Ytgdjhbnnkadjeaa
