/- The contracts of package stack by lists of frames: New, Words, Frames, Depth, Enter. -/
import Derived.Test.YtgdjhbnnkadjeaaImplE
import Derived.Test.YtgdjhbnnkadjeaaState
namespace Go.Proofs.Ytgdjhbnnkadjeaa
open Go.RowKit

/-- What a method of the stack leaves. -/
def IPost (S : Nat) (vf : Value) (fs : List Fm) (w : World) (s' : List M) (r : Ending) (e : Ending) (w' : World) : Prop :=
  e = r ∧ ∃ vf' fs', Stk w' S vf' fs' ∧ abs fs' = s' ∧ Keep w w' (fpI S vf fs) (fpI S vf' fs') (vb fs) (vb fs')

section
variable {w : World} {S : Nat} {vf : Value} {fs : List Fm}
theorem IPost.of_same (h : Stk w S vf fs) {w' : World} (hU : Upd w w' []) {s' : List M} {r e : Ending} (hs : abs fs = s') (he : e = r) : IPost S vf fs w s' r e w' :=
  ⟨he, vf, fs, h.same hU, hs, Keep.refl hU⟩

theorem Stk.top {i : List Fm} {f : Fm} (h : Stk w S vf (i ++ [f])) : ∃ g cap, vf = .slice (some ⟨g, 0, none⟩) (i.length + 1) cap ∧ i.length + 1 ≤ cap ∧ cap ≤ maxLen ∧
    w.cell? ⟨g, i.length, none⟩ = some (.pointer (some ⟨f.fb, 0, none⟩)) := by
  have hr := h.row
  rw [show (i ++ [f]).length = i.length + 1 by simp] at hr
  obtain ⟨g, cap, rfl, h1, h2, h3⟩ := own_form hr (by omega)
  refine ⟨g, cap, rfl, h1, h2, ?_⟩
  rw [hr.cellAt i.length (by omega)]
  simp [ptrs]
theorem Stk.nil_ (h : Stk w S vf []) : ∃ A cap, vf = .slice A 0 cap := by
  obtain ⟨A, cap, hv, _⟩ := own_slice h.row
  exact ⟨A, cap, hv⟩

theorem int_ret {a b : Int} (h : a = b) : Ending.returned (.int .i64 a) = .returned (.int .i64 b) := by rw [h]

theorem wsum_len (fs : List Fm) : fs.length ≤ wsum fs := by
  induction fs with
  | nil => simp
  | cons a t ih =>
    have h3 : 3 ≤ a.words := by unfold Fm.words; omega
    simp only [wsum, List.map_cons, List.sum_cons, List.length_cons] at ih ⊢
    omega

theorem iNew (w : World) : Calls Try.prog 8 #[] w fun e w' => e = .returned (.pointer (some ⟨w.heap.size, 0, none⟩)) ∧ Stk w' w.heap.size (.slice none 0 0) [] ∧ Upd w w' [] :=
  (New_any w).mono fun e w' ⟨he, hb, hU⟩ => ⟨he, ⟨hb, World.ownsRow_nil _ _ _ _, by simp, by simp, by simp [vb], by simp [wsum]⟩, hU⟩

theorem iWords (h : Stk w S vf fs) : Calls Try.prog 10 #[.pointer (some ⟨S, 0, none⟩)] w fun e w' => e = .returned (.int .i64 (msum (abs fs))) ∧ Upd w w' [] := by
  rw [msum_abs]
  exact Words_some S vf _ w h.blk
theorem iFrames (h : Stk w S vf fs) : Calls Try.prog 12 #[.pointer (some ⟨S, 0, none⟩)] w fun e w' => e = .returned (.int .i64 (abs fs).length) ∧ Upd w w' [] := by
  obtain ⟨A, cap, rfl, _⟩ := own_slice h.row
  have hh := Frames_some S fs.length cap A _ w h.blk
  rw [show (abs fs).length = fs.length by simp [abs]]
  exact hh
theorem iDepth (h : Stk w S vf fs) : Calls Try.prog 20 #[.pointer (some ⟨S, 0, none⟩)] w fun e w' => e = .returned (.int .i64 (sDepth (abs fs))) ∧ Upd w w' [] := by
  rcases last_cases fs with rfl | ⟨i, f, rfl⟩
  · obtain ⟨A, cap, rfl⟩ := h.nil_
    exact Depth_none S cap A _ w h.blk
  · obtain ⟨g, cap, rfl, h1, h2, h3⟩ := h.top
    have hf := h.ok f (by simp)
    obtain ⟨A, c, hv, _⟩ := own_slice hf.ops
    have hb := hf.blk
    rw [hv] at hb
    have := Depth_some S g i.length cap f.fb f.ops.length c A _ _ _ w h1 h2 h.blk h3 hb
    rw [abs_append, show abs [f] = [f.m] from rfl]
    simpa [sDepth, onTop_snoc, Fm.m] using this

theorem iEnter (h : Stk w S vf fs) (l r : Int) : Calls Try.prog 9 #[.pointer (some ⟨S, 0, none⟩), .int .i64 l, .int .i64 r] w
    (IPost S vf fs w (sEnter (abs fs) l r).1 (.returned (.int .i64 (sEnter (abs fs) l r).2))) := by
  by_cases hbad : l < 0 ∨ 40 < l ∨ r < 0 ∨ 40 < r
  · refine (Enter_bad S l r w hbad).mono fun e w' ⟨he, hU⟩ => IPost.of_same h hU ?_ ?_
    · simp [sEnter, hbad]
    · simp [sEnter, hbad, he]
  · obtain ⟨ln, rfl⟩ : ∃ n : Nat, l = n := ⟨l.toNat, by omega⟩
    obtain ⟨rn, rfl⟩ : ∃ n : Nat, r = n := ⟨r.toNat, by omega⟩
    have hl : ln ≤ 40 := by omega
    have hr : rn ≤ 40 := by omega
    have hw := h.words
    by_cases hov : 4000 < wsum fs + ln + rn + 3
    · have e1 : sEnter (abs fs) ln rn = (abs fs, 33) := by
        unfold sEnter
        rw [if_neg hbad, if_pos (by rw [msum_abs]; simpa using hov)]
      refine (Enter_over S ln rn (wsum fs) vf w hl hr hw hov h.blk).mono fun e w' ⟨he, hU⟩ => IPost.of_same h hU ?_ ?_
      · rw [e1]
      · rw [e1, he]
    · have e1 : sEnter (abs fs) ln rn = (abs fs ++ [⟨[], List.replicate ln zero2, rn⟩], 0) := by
        unfold sEnter
        rw [if_neg hbad, if_neg (by rw [msum_abs]; simpa using hov)]
        simp
      obtain ⟨A, cap, rfl, _⟩ := own_slice h.row
      have hlen : fs.length ≤ 4000 := Nat.le_trans (wsum_len fs) hw
      refine (Enter_good S ln rn (wsum fs) fs.length cap A (ptrs fs) w hl hr (by omega) hlen h.blk h.row).mono fun e w' ⟨he, vf', hb, hrow, hF, hL, hU, hat⟩ => ?_
      rw [e1]
      let f : Fm := ⟨w.heap.size + 1, .slice none 0 0, .slice (some ⟨w.heap.size, 0, none⟩) ln ln, [], List.replicate ln zero2, rn⟩
      have hvals : f.vals = [w.heap.size] := by simp [f, Fm.vals, Value.ob, Value.ownBlock]
      have hSF : ∀ k, k ∈ S :: Value.ob (.slice A fs.length cap) → ty w k = some 52 ∨ ty w k = some 53 := by
        intro k hk
        simp only [List.mem_cons] at hk
        rcases hk with rfl | hk
        · exact .inl h.blk.ty
        · exact .inr (own_ty h.row hk)
      refine ⟨he, vf', fs ++ [f], ⟨?_, ?_, ?_, ?_, ?_, ?_⟩, ?_, ?_, ?_, ?_⟩
      · have : wsum (fs ++ [f]) = wsum fs + (ln + rn + 3) := by rw [wsum_append]; simp [wsum, Fm.words, f]
        rw [this]
        exact hb
      · rw [ptrs_append, List.length_append]
        exact hrow
      · intro x hx
        simp only [List.mem_append, List.mem_singleton] at hx
        rcases hx with hx | rfl
        · have hxo := h.ok x hx
          refine hxo.upd hU ?_ ?_
          · intro hk
            have := hSF _ hk
            rw [hxo.blk.ty] at this
            simp at this
          · intro k hk hk'
            have := hSF _ hk'
            rw [hxo.val_ty hk] at this
            simp at this
        · exact ⟨hF, World.ownsRow_nil _ _ _ _, by simpa [f] using hL, ⟨by simp [f], hr, by simpa [f] using hl⟩⟩
      · rw [List.map_append, List.nodup_append]
        refine ⟨h.fbs, by simp, ?_⟩
        intro a ha b hb2
        simp only [List.mem_map] at ha
        obtain ⟨x, hx, rfl⟩ := ha
        have := (h.ok x hx).blk.lt
        simp [f] at hb2
        omega
      · rw [vb_append, show vb [f] = f.vals by simp [vb], hvals, List.nodup_append]
        refine ⟨h.vbs, by simp, ?_⟩
        intro a ha b hb2
        have := h.vb_lt ha
        simp at hb2
        omega
      · rw [wsum_append]
        simp [wsum, Fm.words, f] at hov ⊢
        omega
      · rw [abs_append]; rfl
      · refine hU.mono ?_
        intro b hb2
        simp only [List.mem_cons] at hb2
        simp only [fpI, List.mem_cons, List.mem_append]
        rcases hb2 with hb2 | hb2
        · exact .inl hb2
        · exact .inr (.inl hb2)
      · intro k hk
        simp only [fpI, vb_append, show vb [f] = f.vals by simp [vb], hvals, List.map_append, List.map_cons, List.map_nil, List.mem_cons, List.mem_append, List.not_mem_nil, or_false] at hk ⊢
        rcases hk with hk | hk | (hk | hk) | hk | hk
        · exact .inl (.inl hk)
        · rcases hat k hk with h5 | h5
          · exact .inl (.inr (.inl h5))
          · exact .inr h5
        · exact .inl (.inr (.inr (.inl hk)))
        · right; simp only [f] at hk; omega
        · exact .inl (.inr (.inr (.inr hk)))
        · right; omega
      · intro k hk
        rw [vb_append, show vb [f] = f.vals by simp [vb], hvals] at hk
        simp only [List.mem_append, List.mem_singleton] at hk
        rcases hk with hk | hk
        · exact .inl hk
        · exact .inr (by omega)
end
end Go.Proofs.Ytgdjhbnnkadjeaa
