/- The contracts of the reference by lists of frames. -/
import Derived.Test.YtgdjhbnnkadjeaaStepD
namespace Go.Proofs.Ytgdjhbnnkadjeaa
open Go.RowKit
section
variable {w : World} {X : Nat} {vf : Value} {gs : List Fm}

theorem rnodup_vals (h : (vb gs).Nodup) {f : Fm} (hf : f ∈ gs) : f.vals.Nodup := by
  induction gs with
  | nil => simp at hf
  | cons a t ih =>
    rw [show a :: t = [a] ++ t from rfl, vb_append, List.nodup_append] at h
    simp only [List.mem_cons] at hf
    rcases hf with rfl | hf
    · simpa [vb] using h.1
    · exact ih h.2.1 hf

theorem rPeekS (h : RStk w X vf gs) (k : Int) : Calls Try.prog 32 #[.pointer (some ⟨X, 0, none⟩), .int .i64 k] w (VPost w (sPeek (abs gs) k)) := by
  rcases last_cases gs with rfl | ⟨i, f, rfl⟩
  · obtain ⟨A, cap, rfl⟩ := h.nil_
    exact (rPeek_none X cap A k w h.blk).mono fun e w' ⟨he, hU⟩ => ⟨he, hU⟩
  · obtain ⟨g, cap, rfl, h1, h2, hr, c0, c1, c2, _⟩ := h.top
    have hf := h.ok f (by simp)
    have ho := hf.ops
    have h40 : f.ops.length ≤ 40 := Nat.le_trans hf.fits.ops hf.fits.room
    rw [abs_snoc]
    by_cases hbad : k < 0 ∨ (f.ops.length : Int) ≤ k
    · obtain ⟨A, c, hv, _⟩ := own_slice ho
      rw [hv] at c1
      have e1 : sPeek (abs i ++ [f.m]) k = (zero2, 35) := by
        simp only [sPeek, onTop_snoc, Fm.m]
        rw [if_pos hbad]
      rw [e1]
      exact (rPeek_bad X g i.length cap f.ops.length c k A w h.blk h2 h40 hbad c1).mono fun e w' ⟨he, hU⟩ => ⟨he, hU⟩
    · obtain ⟨n, rfl⟩ : ∃ n : Nat, k = n := ⟨k.toNat, by omega⟩
      have hn : n < f.ops.length := by omega
      obtain ⟨go, c, hv, hc1, hc2, hc3⟩ := own_form ho (by omega)
      rw [hv] at c1 ho
      obtain ⟨x0, x1⟩ := own_get ho rfl (f.ops.length - 1 - n) (by omega)
      have e1 : sPeek (abs i ++ [f.m]) n = (f.ops.getD (f.ops.length - 1 - n) zero2, 0) := by
        simp only [sPeek, onTop_snoc, Fm.m]
        rw [if_neg hbad]
        simp
      rw [e1]
      exact (rPeek_good X g i.length cap go f.ops.length c n _ _ w h.blk h2 h40 hn c1 x0 x1).mono fun e w' ⟨he, hU⟩ => ⟨he, hU⟩

theorem rLocalS (h : RStk w X vf gs) (k : Int) : Calls Try.prog 33 #[.pointer (some ⟨X, 0, none⟩), .int .i64 k] w (VPost w (sLocal (abs gs) k)) := by
  rcases last_cases gs with rfl | ⟨i, f, rfl⟩
  · obtain ⟨A, cap, rfl⟩ := h.nil_
    exact (rLocal_none X cap A k w h.blk).mono fun e w' ⟨he, hU⟩ => ⟨he, hU⟩
  · obtain ⟨g, cap, rfl, h1, h2, hr, c0, c1, c2, _⟩ := h.top
    have hf := h.ok f (by simp)
    have ho := hf.locs
    have h40 := hf.fits.locs
    rw [abs_snoc]
    by_cases hbad : k < 0 ∨ (f.locs.length : Int) ≤ k
    · obtain ⟨A, c, hv, _⟩ := own_slice ho
      rw [hv] at c0
      have e1 : sLocal (abs i ++ [f.m]) k = (zero2, 3) := by
        simp only [sLocal, onTop_snoc, Fm.m]
        rw [if_pos hbad]
      rw [e1]
      exact (rLocal_bad X g i.length cap f.locs.length c k A w h.blk h2 h40 hbad c0).mono fun e w' ⟨he, hU⟩ => ⟨he, hU⟩
    · obtain ⟨n, rfl⟩ : ∃ n : Nat, k = n := ⟨k.toNat, by omega⟩
      have hn : n < f.locs.length := by omega
      obtain ⟨gl, c, hv, hc1, hc2, hc3⟩ := own_form ho (by omega)
      rw [hv] at c0 ho
      obtain ⟨x0, x1⟩ := own_get ho rfl n hn
      have e1 : sLocal (abs i ++ [f.m]) n = (f.locs.getD n zero2, 0) := by
        simp only [sLocal, onTop_snoc, Fm.m]
        rw [if_neg hbad]
        simp
      rw [e1]
      exact (rLocal_good X g i.length cap gl f.locs.length c n _ _ w h.blk h2 h40 hn c0 x0 x1).mono fun e w' ⟨he, hU⟩ => ⟨he, hU⟩

theorem rLeaveS (h : RStk w X vf gs) : Calls Try.prog 29 #[.pointer (some ⟨X, 0, none⟩)] w
    (RPost X vf gs w (sLeave (abs gs)).1 (.returned (.int .i64 (sLeave (abs gs)).2))) := by
  rcases last_cases gs with rfl | ⟨i, f, rfl⟩
  · obtain ⟨A, cap, rfl⟩ := h.nil_
    exact (rLeave_none X cap A w h.blk).mono fun e w' ⟨he, hU⟩ => RPost.of_same h hU rfl he
  · obtain ⟨g, cap, rfl, h1, h2, hr, c0, c1, c2, _⟩ := h.top
    have hw := h.words
    have e1 : sLeave (abs (i ++ [f])) = (abs i, 0) := by rw [abs_snoc]; simp [sLeave, onTop_snoc]
    rw [e1]
    refine (rLeave_some X g i.length cap w h.blk h2 h1).mono ?_
    rintro e w' ⟨he, hb', hU⟩
    refine ⟨he, .slice (some ⟨g, 0, none⟩) i.length cap, i, ⟨hb', ?_, ?_, ?_, ?_⟩, rfl, ?_, ?_, ?_⟩
    · have hc := own_cut hr i.length (by omega)
      rw [rcells_append, List.take_left' (by rw [rcells_length])] at hc
      refine hU.own hc fun k hk => ?_
      have := own_ty hc hk
      intro hk2
      simp at hk2
      subst hk2
      rw [h.blk.ty] at this
      simp at this
    · intro x hx
      have hxo := h.ok x (by simp [hx])
      refine hxo.upd hU ?_
      intro k hk hk2
      simp at hk2
      have := hxo.val_ty hk
      rw [hk2, h.blk.ty] at this
      simp at this
    · have := h.vbs
      rw [vb_append, List.nodup_append] at this
      exact this.1
    · rw [wsum_append] at hw; omega
    · exact hU.mono (by intro b hb; simp at hb; simp [fpR, hb])
    · intro k hk
      simp only [fpR, vb_append, List.mem_cons, List.mem_append] at hk ⊢
      rcases hk with hk | hk | hk
      · exact .inl (.inl hk)
      · exact .inl (.inr (.inl (by simpa [Value.ob, Value.ownBlock] using hk)))
      · exact .inl (.inr (.inr (.inl hk)))
    · intro k hk
      rw [vb_append]
      exact .inl (by simp [hk])

theorem rcells_turn (i : List Fm) (f : Fm) (v : Value) (l : List V2) : (rcells (i ++ [f])).set (i.length * 3 + 1) v = rcells (i ++ [{ f with vo := v, ops := l }]) := by
  rw [rcells_append, rcells_append, List.set_append_right _ _ (by rw [rcells_length]; omega), rcells_length]
  rw [show i.length * 3 + 1 - i.length * 3 = 1 by omega]
  rfl
theorem sub_vals {f : Fm} {g : Nat} {n cap : Nat} {b : Nat} {l : List Nat} (hb : b ∈ g :: l) (hl : ∀ k, k ∈ l → k ∈ f.vals) : b ∈ Value.ob (.slice (some ⟨g, 0, none⟩) n cap) ++ f.vals := by
  simp only [List.mem_cons] at hb
  rw [List.mem_append]
  rcases hb with rfl | hb
  · exact .inl (by simp [Value.ob, Value.ownBlock])
  · exact .inr (hl b hb)

theorem rPutS (h : RStk w X vf gs) (v : V2) : Calls Try.prog 30 #[.pointer (some ⟨X, 0, none⟩), v.val] w
    (RPost X vf gs w (sPut (abs gs) v).1 (.returned (.int .i64 (sPut (abs gs) v).2))) := by
  rcases last_cases gs with rfl | ⟨i, f, rfl⟩
  · obtain ⟨A, cap, rfl⟩ := h.nil_
    exact (rPut_none X cap A v w h.blk).mono fun e w' ⟨he, hU⟩ => RPost.of_same h hU rfl he
  · obtain ⟨g, cap, rfl, h1, h2, hr, c0, c1, c2, _⟩ := h.top
    have hf := h.ok f (by simp)
    obtain ⟨A, c, hv, _⟩ := own_slice hf.ops
    have ho := hf.ops
    rw [hv] at c1 ho
    rw [abs_snoc]
    by_cases hfull : f.room ≤ f.ops.length
    · have e1 : sPut (abs i ++ [f.m]) v = (abs i ++ [f.m], 35) := by simp [sPut, onTop_snoc, Fm.m, hfull]
      rw [e1]
      have hroom : f.room = f.ops.length := by have := hf.fits.ops; omega
      rw [hroom] at c2
      exact (rPut_bad X g i.length cap f.ops.length c A v w h.blk h2 c1 c2).mono fun e w' ⟨he, hU⟩ => RPost.of_same h hU (abs_snoc i f) he
    · have e1 : sPut (abs i ++ [f.m]) v = (abs i ++ [{ f.m with ops := f.ops ++ [v] }], 0) := by simp [sPut, onTop_snoc, Fm.m, hfull]
      rw [e1]
      refine (rPut_good X g i.length cap f.ops.length c f.room A _ _ v w h.blk h2 (by omega) hf.fits.room c1 c2 hr ho).mono ?_
      rintro e w' ⟨he, vo', hb', hrow', hown', hat', hU⟩
      rw [← hv] at hat' hU
      rw [rcells_turn i f vo' (f.ops ++ [v])] at hrow'
      have hnd := rnodup_vals h.vbs (f := f) (by simp)
      obtain ⟨hs, hk⟩ := h.turn (w' := w') (f' := { f with vo := vo', ops := f.ops ++ [v] }) (hU.mono (fun b hb => sub_vals hb fun k hk => by simp [Fm.vals, hk])) rfl hrow'
        ⟨by rw [List.length_append, flat_append]; simpa [flat] using hown', (hU.own hf.locs fun k hk hk2 => by
            simp only [List.mem_cons] at hk2
            rcases hk2 with rfl | hk2
            · have := own_ty hf.locs hk
              rw [own_ty hr (k := k) (by simp [Value.ob, Value.ownBlock])] at this
              simp at this
            · exact (List.nodup_append.1 hnd).2.2 k hk2 k hk rfl), ⟨by simp; omega, hf.fits.room, hf.fits.locs⟩⟩
        (by
          intro k hk
          simp only [Fm.vals, List.mem_append] at hk ⊢
          rcases hk with hk | hk
          · rcases hat' k hk with h4 | h4
            · exact .inl (.inl h4)
            · exact .inr h4
          · exact .inl (.inr hk))
        (by exact vals_mk (f := f) hnd hat' fun k hk => own_lt hf.locs hk)
      exact ⟨he, _, _, hs, by rw [abs_snoc]; rfl, hk⟩

theorem rTakeS (h : RStk w X vf gs) : Calls Try.prog 31 #[.pointer (some ⟨X, 0, none⟩)] w
    (RPost X vf gs w (sTake (abs gs)).1 (.returned (.tuple #[(sTake (abs gs)).2.1.val, .int .i64 (sTake (abs gs)).2.2]))) := by
  have hpk : ∀ o, Calls Try.prog 32 #[.pointer (some ⟨X, 0, none⟩), .int .i64 0] (w.alloc o) (VPost (w.alloc o) (sPeek (abs gs) 0)) := fun o => rPeekS (h.same ((Upd.refl w []).alloc o)) 0
  rcases last_cases gs with rfl | ⟨i, f, rfl⟩
  · exact (rTake_err X 6 w (by decide) hpk).mono fun e w' ⟨he, hU⟩ => RPost.of_same h hU rfl he
  · obtain ⟨g, cap, rfl, h1, h2, hr, c0, c1, c2, _⟩ := h.top
    have hf := h.ok f (by simp)
    have ho := hf.ops
    rw [abs_snoc] at hpk ⊢
    rcases last_cases f.ops with hnil | ⟨l, v, hl⟩
    · have e1 : sTake (abs i ++ [f.m]) = (abs i ++ [f.m], zero2, 35) := by simp [sTake, onTop_snoc, Fm.m, hnil]
      have e2 : sPeek (abs i ++ [f.m]) 0 = (zero2, 35) := by simp [sPeek, onTop_snoc, Fm.m, hnil]
      rw [e2] at hpk
      rw [e1]
      exact (rTake_err X 35 w (by decide) hpk).mono fun e w' ⟨he, hU⟩ => RPost.of_same h hU (abs_snoc i f) he
    · rw [hl] at ho
      rw [show (l ++ [v]).length = l.length + 1 by simp] at ho
      obtain ⟨go, c, hv, hc1, hc2, hc3⟩ := own_form ho (by omega)
      rw [hv] at c1 ho
      have hlen : l.length < 40 := by have h5 := hf.fits.ops; have h6 := hf.fits.room; rw [hl] at h5; simp at h5; omega
      have e1 : sTake (abs i ++ [f.m]) = (abs i ++ [{ f.m with ops := l }], v, 0) := by simp [sTake, onTop_snoc, Fm.m, hl]
      have e2 : sPeek (abs i ++ [f.m]) 0 = (v, 0) := by
        simp only [sPeek, onTop_snoc, Fm.m, hl]
        rw [if_neg (by simp)]
        simp
      rw [e2] at hpk
      rw [e1]
      refine (rTake_good X g i.length cap l.length c go v.ref v.n w h.blk h2 hlen hc1 _ hr c1 hpk).mono ?_
      rintro e w' ⟨he, hb', hrow', hU⟩
      have hcut := own_cut ho l.length (by omega)
      rw [flat_append, List.take_left' (flat_length l)] at hcut
      rw [rcells_turn i f _ l] at hrow'
      have hgno : ∀ {e : TypeId} {sz n : Nat} {u : Value} {xs : List Value}, w.ownsRow 0 e sz u n xs → e ≠ 70 → ∀ k, k ∈ Value.ob u → k ∉ [g] := by
        intro e sz n u xs hu he k hk hk2
        simp at hk2
        subst hk2
        have := own_ty hu hk
        rw [own_ty hr (k := k) (by simp [Value.ob, Value.ownBlock])] at this
        injection this with this
        exact he this.symm
      obtain ⟨hs, hk⟩ := h.turn (w' := w') (f' := { f with vo := .slice (some ⟨go, 0, none⟩) l.length c, ops := l }) (hU.mono (fun b hb => sub_vals hb fun k hk => by simp at hk)) rfl hrow'
        ⟨hU.own hcut (hgno hcut (by decide)), hU.own hf.locs (hgno hf.locs (by decide)), ⟨by have := hf.fits.ops; rw [hl] at this; simp at this ⊢; omega, hf.fits.room, hf.fits.locs⟩⟩
        (by
          intro k hk
          simp only [Fm.vals, List.mem_append] at hk ⊢
          rw [hv]
          exact .inl (by simpa [Value.ob, Value.ownBlock] using hk))
        (by
          have := rnodup_vals h.vbs (f := f) (by simp)
          simp only [Fm.vals] at this ⊢
          rw [hv] at this
          simpa [Value.ob, Value.ownBlock] using this)
      exact ⟨he, _, _, hs, by rw [abs_snoc]; rfl, hk⟩

theorem rSetS (h : RStk w X vf gs) (k : Int) (v : V2) : Calls Try.prog 34 #[.pointer (some ⟨X, 0, none⟩), .int .i64 k, v.val] w
    (RPost X vf gs w (sSet (abs gs) k v).1 (.returned (.int .i64 (sSet (abs gs) k v).2))) := by
  have hpk : ∀ o, Calls Try.prog 33 #[.pointer (some ⟨X, 0, none⟩), .int .i64 k] (w.alloc o) (VPost (w.alloc o) (sLocal (abs gs) k)) := fun o => rLocalS (h.same ((Upd.refl w []).alloc o)) k
  rcases last_cases gs with rfl | ⟨i, f, rfl⟩
  · exact (rSetLocal_err X k 6 v w (by decide) hpk).mono fun e w' ⟨he, hU⟩ => RPost.of_same h hU rfl he
  · obtain ⟨g, cap, rfl, h1, h2, hr, c0, c1, c2, _⟩ := h.top
    have hf := h.ok f (by simp)
    have ho := hf.locs
    rw [abs_snoc] at hpk ⊢
    by_cases hbad : k < 0 ∨ (f.locs.length : Int) ≤ k
    · have e1 : sSet (abs i ++ [f.m]) k v = (abs i ++ [f.m], 3) := by
        simp only [sSet, onTop_snoc, Fm.m]
        rw [if_pos hbad]
      have e2 : sLocal (abs i ++ [f.m]) k = (zero2, 3) := by
        simp only [sLocal, onTop_snoc, Fm.m]
        rw [if_pos hbad]
      rw [e2] at hpk
      rw [e1]
      exact (rSetLocal_err X k 3 v w (by decide) hpk).mono fun e w' ⟨he, hU⟩ => RPost.of_same h hU (abs_snoc i f) he
    · obtain ⟨n, rfl⟩ : ∃ n : Nat, k = n := ⟨k.toNat, by omega⟩
      have hn : n < f.locs.length := by omega
      obtain ⟨gl, c, hv, hc1, hc2, hc3⟩ := own_form ho (by omega)
      rw [hv] at c0 ho
      have e1 : sSet (abs i ++ [f.m]) n v = (abs i ++ [{ f.m with locs := f.locs.set n v }], 0) := by
        simp only [sSet, onTop_snoc, Fm.m]
        rw [if_neg hbad]
        simp
      have e2 : sLocal (abs i ++ [f.m]) n = (f.locs.getD n zero2, 0) := by
        simp only [sLocal, onTop_snoc, Fm.m]
        rw [if_neg hbad]
        simp
      rw [e2] at hpk
      rw [e1]
      refine (rSetLocal_good X g i.length cap f.locs.length c gl n v w h.blk h2 hn c0 f.locs rfl ho (fun o => (hpk o).mono fun e w' ⟨he, hU⟩ => ⟨⟨_, _, he⟩, hU⟩)).mono ?_
      rintro e w' ⟨he, hl, hU⟩
      rw [flat_set _ _ _ hn] at hl
      have hnd := rnodup_vals h.vbs (f := f) (by simp)
      have hgl : gl ∈ Value.ob f.vl := by rw [hv]; simp [Value.ob, Value.ownBlock]
      have er : rcells (i ++ [{ f with locs := f.locs.set n v }]) = rcells (i ++ [f]) := by simp [rcells]
      obtain ⟨hs, hk⟩ := h.turn (w' := w') (f' := { f with locs := f.locs.set n v }) (hU.mono (by intro b hb2; simp at hb2; subst hb2; simp [Fm.vals, hgl])) (by simp [Fm.words])
        (by
          rw [er]
          refine hU.own hr fun k hk hk2 => ?_
          simp at hk2
          subst hk2
          have := own_ty hr hk
          rw [own_ty hf.locs hgl] at this
          simp at this)
        ⟨hU.own hf.ops (fun k hk hk2 => by
            simp at hk2
            subst hk2
            exact (List.nodup_append.1 hnd).2.2 k hk k hgl rfl), by
          show World.ownsRow _ 0 34 2 f.vl (f.locs.set n v).length (flat (f.locs.set n v))
          rw [hv, List.length_set]
          exact hl, ⟨hf.fits.ops, hf.fits.room, by simpa using hf.fits.locs⟩⟩
        (fun k hk => .inl hk) hnd
      exact ⟨he, _, _, hs, by rw [abs_snoc]; rfl, hk⟩

theorem rEnterS (h : RStk w X vf gs) (l r : Int) : Calls Try.prog 28 #[.pointer (some ⟨X, 0, none⟩), .int .i64 l, .int .i64 r] w
    (RPost X vf gs w (sEnter (abs gs) l r).1 (.returned (.int .i64 (sEnter (abs gs) l r).2))) := by
  by_cases hbad : l < 0 ∨ 40 < l ∨ r < 0 ∨ 40 < r
  · refine (rEnter_bad X l r w hbad).mono fun e w' ⟨he, hU⟩ => RPost.of_same h hU ?_ ?_
    · simp [sEnter, hbad]
    · simp [sEnter, hbad, he]
  · obtain ⟨ln, rfl⟩ : ∃ n : Nat, l = n := ⟨l.toNat, by omega⟩
    obtain ⟨rn, rfl⟩ : ∃ n : Nat, r = n := ⟨r.toNat, by omega⟩
    have hl : ln ≤ 40 := by omega
    have hr : rn ≤ 40 := by omega
    have hw := h.words
    have hwd := rWordsS h
    by_cases hov : 4000 < wsum gs + ln + rn + 3
    · have e1 : sEnter (abs gs) ln rn = (abs gs, 33) := by
        unfold sEnter
        rw [if_neg hbad, if_pos (by rw [msum_abs]; simpa using hov)]
      refine (rEnter_over X ln rn (wsum gs) w hl hr hw hov hwd).mono fun e w' ⟨he, hU⟩ => RPost.of_same h hU ?_ ?_
      · rw [e1]
      · rw [e1, he]
    · have e1 : sEnter (abs gs) ln rn = (abs gs ++ [⟨[], List.replicate ln zero2, rn⟩], 0) := by
        unfold sEnter
        rw [if_neg hbad, if_neg (by rw [msum_abs]; simpa using hov)]
        simp
      obtain ⟨A, cap, rfl, _⟩ := own_slice h.row
      have hlen : gs.length ≤ 4000 := Nat.le_trans (wsum_len gs) hw
      refine (rEnter_good X ln rn (wsum gs) gs.length cap A (rcells gs) w hl hr (by omega) hlen h.blk h.row hwd).mono fun e w' ⟨he, vf', gl, hb, hrow, hL, hgl, hU, hat⟩ => ?_
      rw [e1]
      let f : Fm := ⟨0, .slice none 0 0, .slice (some ⟨gl, 0, none⟩) ln ln, [], List.replicate ln zero2, rn⟩
      have hvals : f.vals = [gl] := by simp [f, Fm.vals, Value.ob, Value.ownBlock]
      have hSF : ∀ k, k ∈ X :: Value.ob (.slice A gs.length cap) → ty w k = some 46 ∨ ty w k = some 70 := by
        intro k hk
        simp only [List.mem_cons] at hk
        rcases hk with rfl | hk
        · exact .inl h.blk.ty
        · exact .inr (own_ty h.row hk)
      refine ⟨he, vf', gs ++ [f], ⟨hb, ?_, ?_, ?_, ?_⟩, ?_, ?_, ?_, ?_⟩
      · rw [rcells_append, List.length_append]
        exact hrow
      · intro x hx
        simp only [List.mem_append, List.mem_singleton] at hx
        rcases hx with hx | rfl
        · have hxo := h.ok x hx
          refine hxo.upd hU ?_
          intro k hk hk'
          have := hSF _ hk'
          rw [hxo.val_ty hk] at this
          simp at this
        · exact ⟨World.ownsRow_nil _ _ _ _, by simpa [f] using hL, ⟨by simp [f], hr, by simpa [f] using hl⟩⟩
      · rw [vb_append, show vb [f] = f.vals by simp [vb], hvals, List.nodup_append]
        refine ⟨h.vbs, by simp, ?_⟩
        intro a ha b hb2
        have := h.vb_lt ha
        simp at hb2
        omega
      · rw [wsum_append]
        simp [wsum, Fm.words, f] at hov ⊢
        omega
      · rw [abs_append]; rfl
      · refine hU.mono ?_
        intro b hb2
        simp only [List.mem_cons] at hb2
        simp only [fpR, List.mem_cons, List.mem_append]
        rcases hb2 with hb2 | hb2
        · exact .inl hb2
        · exact .inr (.inl hb2)
      · intro k hk
        simp only [fpR, vb_append, show vb [f] = f.vals by simp [vb], hvals, List.mem_cons, List.mem_append, List.not_mem_nil, or_false] at hk ⊢
        rcases hk with hk | hk | hk | hk
        · exact .inl (.inl hk)
        · rcases hat k hk with h5 | h5
          · exact .inl (.inr (.inl h5))
          · exact .inr h5
        · exact .inl (.inr (.inr hk))
        · right; omega
      · intro k hk
        rw [vb_append, show vb [f] = f.vals by simp [vb], hvals] at hk
        simp only [List.mem_append, List.mem_singleton] at hk
        rcases hk with hk | hk
        · exact .inl hk
        · exact .inr (by omega)
end
end Go.Proofs.Ytgdjhbnnkadjeaa
