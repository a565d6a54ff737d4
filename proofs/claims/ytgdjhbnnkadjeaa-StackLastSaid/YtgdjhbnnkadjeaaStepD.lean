/- The reference's stack by lists of frames; Words, Depth. -/
import Derived.Test.YtgdjhbnnkadjeaaRefD
import Derived.Test.YtgdjhbnnkadjeaaStepC
namespace Go.Proofs.Ytgdjhbnnkadjeaa
open Go.RowKit

def rcells (gs : List Fm) : List Value := gs.flatMap fun f => [f.vl, f.vo, .int .i64 f.room]
theorem rcells_append (a b : List Fm) : rcells (a ++ b) = rcells a ++ rcells b := by simp [rcells]
theorem rcells_length (a : List Fm) : (rcells a).length = a.length * 3 := by
  induction a with
  | nil => rfl
  | cons x t ih => rw [show x :: t = [x] ++ t from rfl, rcells_append, List.length_append, ih]; simp [rcells]; omega
theorem rcells_get (gs : List Fm) (k : Nat) (hk : k < gs.length) (j : Nat) (hj : j < 3) : (rcells gs)[k * 3 + j]? = [gs[k].vl, gs[k].vo, .int .i64 gs[k].room][j]? := by
  induction gs generalizing k with
  | nil => simp at hk
  | cons x t ih =>
    rw [show rcells (x :: t) = [x.vl, x.vo, .int .i64 x.room] ++ rcells t from rfl]
    cases k with
    | zero =>
      rw [List.getElem?_append_left (by simp; omega)]
      simp
    | succ k =>
      rw [List.getElem?_append_right (by simp; omega)]
      rw [show (k + 1) * 3 + j - [x.vl, x.vo, Value.int .i64 x.room].length = k * 3 + j by simp; omega, ih k (by simpa using hk)]
      rfl

structure Fm.ROk (w : World) (f : Fm) : Prop where
  ops : w.ownsRow 0 34 2 f.vo f.ops.length (flat f.ops)
  locs : w.ownsRow 0 34 2 f.vl f.locs.length (flat f.locs)
  fits : f.Fits

structure RStk (w : World) (X : Nat) (vf : Value) (gs : List Fm) : Prop where
  blk : Blk w X 46 #[vf]
  row : w.ownsRow 0 70 3 vf gs.length (rcells gs)
  ok : ∀ f, f ∈ gs → f.ROk w
  vbs : (vb gs).Nodup
  words : wsum gs ≤ 4000

def fpR (X : Nat) (vf : Value) (gs : List Fm) : List Nat := X :: (Value.ob vf ++ vb gs)

def RPost (X : Nat) (vf : Value) (gs : List Fm) (w : World) (s' : List M) (r : Ending) (e : Ending) (w' : World) : Prop :=
  e = r ∧ ∃ vf' gs', RStk w' X vf' gs' ∧ abs gs' = s' ∧ Keep w w' (fpR X vf gs) (fpR X vf' gs') (vb gs) (vb gs')

theorem Fm.ROk.upd {w w' : World} {F : List Nat} {f : Fm} (h : f.ROk w) (hU : Upd w w' F) (h2 : ∀ k, k ∈ f.vals → k ∉ F) : f.ROk w' :=
  ⟨hU.own h.ops fun k hk => h2 k (by simp [Fm.vals, hk]), hU.own h.locs fun k hk => h2 k (by simp [Fm.vals, hk]), h.fits⟩
theorem Fm.ROk.val_ty {w : World} {f : Fm} (h : f.ROk w) {k : Nat} (hk : k ∈ f.vals) : ty w k = some 34 := by
  simp only [Fm.vals, List.mem_append] at hk
  rcases hk with hk | hk
  · exact own_ty h.ops hk
  · exact own_ty h.locs hk
theorem Fm.ROk.val_lt {w : World} {f : Fm} (h : f.ROk w) {k : Nat} (hk : k ∈ f.vals) : k < w.heap.size := by
  simp only [Fm.vals, List.mem_append] at hk
  rcases hk with hk | hk
  · exact own_lt h.ops hk
  · exact own_lt h.locs hk

section
variable {w w' : World} {X : Nat} {vf : Value} {gs : List Fm}
theorem RStk.vb_ty (h : RStk w X vf gs) {k : Nat} (hk : k ∈ vb gs) : ty w k = some 34 := by
  obtain ⟨f, hf, hk⟩ := mem_vb.1 hk
  exact (h.ok f hf).val_ty hk
theorem RStk.vb_lt (h : RStk w X vf gs) {k : Nat} (hk : k ∈ vb gs) : k < w.heap.size := by
  obtain ⟨f, hf, hk⟩ := mem_vb.1 hk
  exact (h.ok f hf).val_lt hk
theorem RStk.fp_ty (h : RStk w X vf gs) {k : Nat} (hk : k ∈ fpR X vf gs) : ty w k = some 46 ∨ ty w k = some 70 ∨ k ∈ vb gs := by
  simp only [fpR, List.mem_cons, List.mem_append] at hk
  rcases hk with rfl | hk | hk
  · exact .inl h.blk.ty
  · exact .inr (.inl (own_ty h.row hk))
  · exact .inr (.inr hk)
theorem RStk.upd (h : RStk w X vf gs) {F : List Nat} (hU : Upd w w' F) (hF : ∀ k, k ∈ fpR X vf gs → k ∉ F) : RStk w' X vf gs := by
  refine ⟨hU.blk h.blk (hF X (by simp [fpR])), hU.own h.row fun k hk => hF k (by simp [fpR, hk]), fun f hf => ?_, h.vbs, h.words⟩
  refine (h.ok f hf).upd hU fun k hk => hF _ ?_
  simp only [fpR, List.mem_cons, List.mem_append]
  exact .inr (.inr (mem_vb.2 ⟨f, hf, hk⟩))
theorem RStk.same (h : RStk w X vf gs) (hU : Upd w w' []) : RStk w' X vf gs := h.upd hU (by simp)
theorem RPost.of_same (h : RStk w X vf gs) {w' : World} (hU : Upd w w' []) {s' : List M} {r e : Ending} (hs : abs gs = s') (he : e = r) : RPost X vf gs w s' r e w' :=
  ⟨he, vf, gs, h.same hU, hs, Keep.refl hU⟩

/-- The top frame turned: its row of values, and its cells in the row of frames. -/
theorem RStk.turn {i : List Fm} {f f' : Fm} (h : RStk w X vf (i ++ [f])) (hU : Upd w w' (Value.ob vf ++ f.vals)) (hw : f'.words = f.words)
    (hrow : w'.ownsRow 0 70 3 vf (i.length + 1) (rcells (i ++ [f']))) (hok : f'.ROk w')
    (hv : ∀ k, k ∈ f'.vals → k ∈ f.vals ∨ w.heap.size ≤ k) (hn : f'.vals.Nodup) :
    RStk w' X vf (i ++ [f']) ∧ Keep w w' (fpR X vf (i ++ [f])) (fpR X vf (i ++ [f'])) (vb (i ++ [f])) (vb (i ++ [f'])) := by
  have hf := h.ok f (by simp)
  have hty : ∀ k, k ∈ Value.ob vf ++ f.vals → ty w k = some 70 ∨ ty w k = some 34 := by
    intro k hk
    simp only [List.mem_append] at hk
    rcases hk with hk | hk
    · exact .inl (own_ty h.row hk)
    · exact .inr (hf.val_ty hk)
  have hvbs := h.vbs
  rw [vb_append] at hvbs
  have hvbs' := List.nodup_append.1 hvbs
  have e1 : vb [f] = f.vals := by simp [vb]
  have e2 : vb [f'] = f'.vals := by simp [vb]
  rw [e1] at hvbs'
  refine ⟨⟨?_, ?_, ?_, ?_, ?_⟩, ?_⟩
  · refine hU.blk h.blk fun hk => ?_
    have := hty X hk
    rw [h.blk.ty] at this
    simp at this
  · simpa using hrow
  · intro x hx
    simp only [List.mem_append, List.mem_singleton] at hx
    rcases hx with hx | rfl
    · have hxo := h.ok x (by simp [hx])
      refine hxo.upd hU ?_
      intro k hk hk'
      simp only [List.mem_append] at hk'
      rcases hk' with hk' | hk'
      · have := hxo.val_ty hk
        rw [own_ty h.row hk'] at this
        simp at this
      · exact hvbs'.2.2 k (mem_vb.2 ⟨x, hx, hk⟩) k hk' rfl
    · exact hok
  · rw [vb_append, e2]
    refine List.nodup_append.2 ⟨hvbs'.1, hn, ?_⟩
    rintro a ha b hb rfl
    rcases hv a hb with h1 | h1
    · exact hvbs'.2.2 a ha a h1 rfl
    · have := h.vb_lt (k := a) (by rw [vb_append]; simp [ha])
      omega
  · rw [wsum_append, show wsum [f'] = wsum [f] by simp [wsum, hw], ← wsum_append]
    exact h.words
  · refine ⟨hU.mono ?_, ?_, ?_⟩
    · intro b hb
      simp only [List.mem_append] at hb
      simp only [fpR, vb_append, e1, List.mem_cons, List.mem_append]
      rcases hb with hb | hb
      · exact .inr (.inl hb)
      · exact .inr (.inr (.inr hb))
    · intro k hk
      simp only [fpR, vb_append, e1, e2, List.mem_cons, List.mem_append] at hk ⊢
      rcases hk with hk | hk | hk | hk
      · exact .inl (.inl hk)
      · exact .inl (.inr (.inl hk))
      · exact .inl (.inr (.inr (.inl hk)))
      · rcases hv k hk with h1 | h1
        · exact .inl (.inr (.inr (.inr h1)))
        · exact .inr h1
    · intro k hk
      rw [vb_append, e2] at hk
      rw [vb_append, e1]
      simp only [List.mem_append] at hk ⊢
      rcases hk with hk | hk
      · exact .inl (.inl hk)
      · rcases hv k hk with h1 | h1
        · exact .inl (.inr h1)
        · exact .inr h1

theorem RStk.top {i : List Fm} {f : Fm} (h : RStk w X vf (i ++ [f])) : ∃ g cap, vf = .slice (some ⟨g, 0, none⟩) (i.length + 1) cap ∧ i.length + 1 ≤ cap ∧ i.length ≤ 4000 ∧
    w.ownsRow 0 70 3 vf (i.length + 1) (rcells (i ++ [f])) ∧
    w.cell? ⟨g, i.length * 3, none⟩ = some f.vl ∧ w.cell? ⟨g, i.length * 3 + 1, none⟩ = some f.vo ∧ w.cell? ⟨g, i.length * 3 + 2, none⟩ = some (.int .i64 f.room) ∧ g < w.heap.size := by
  have hr := h.row
  rw [show (i ++ [f]).length = i.length + 1 by simp] at hr
  obtain ⟨g, cap, rfl, h1, h2, h3⟩ := own_form hr (by omega)
  have hl : i.length + 1 ≤ 4000 := by
    have h4 := wsum_len (i ++ [f])
    have h5 := h.words
    simp at h4
    omega
  have c : ∀ j, j < 3 → w.cell? ⟨g, i.length * 3 + j, none⟩ = [f.vl, f.vo, .int .i64 f.room][j]? := fun j hj => by
    rw [hr.cellAt (i.length * 3 + j) (by omega), rcells_get _ _ (by simp) j hj]
    simp
  exact ⟨g, cap, rfl, h1, by omega, hr, c 0 (by omega), c 1 (by omega), c 2 (by omega), h3⟩
theorem RStk.nil_ (h : RStk w X vf []) : ∃ A cap, vf = .slice A 0 cap := by
  obtain ⟨A, cap, hv, _⟩ := own_slice h.row
  exact ⟨A, cap, hv⟩

theorem sumTo_words (gs : List Fm) : sumTo (fun k => (gs.map (fun f => f.locs.length)).getD k 0 + (gs.map Fm.room).getD k 0 + 3) gs.length = wsum gs := by
  have gen : ∀ n, n ≤ gs.length → sumTo (fun k => (gs.map (fun f => f.locs.length)).getD k 0 + (gs.map Fm.room).getD k 0 + 3) n = wsum (gs.take n) := by
    intro n
    induction n with
    | zero => intro _; simp [sumTo, wsum]
    | succ n ih =>
      intro hn
      rw [sumTo, ih (by omega), List.take_succ_eq_append_getElem (by omega), wsum_append]
      have hn' : n < gs.length := by omega
      simp [wsum, Fm.words, List.getD, hn']
  simpa using gen gs.length (Nat.le_refl _)

theorem rWordsS (h : RStk w X vf gs) : Calls Try.prog 19 #[.pointer (some ⟨X, 0, none⟩)] w fun e w' => e = .returned (.int .i64 (wsum gs)) ∧ ∃ d, w' = w.drewN d := by
  obtain ⟨A, cap, hv, hcap, _⟩ := own_slice h.row
  have hb := h.blk
  rw [hv] at hb
  have hl : gs.length ≤ 4000 := Nat.le_trans (wsum_len gs) h.words
  have := rWords X gs.length cap A (fun k => (gs.map (fun f => f.locs.length)).getD k 0) (fun k => (gs.map Fm.room).getD k 0) w hb hl hcap (by rw [sumTo_words]; exact h.words) (by
    intro k hk
    obtain ⟨g, cap', hv', _⟩ := own_form h.row (by omega)
    have hf := h.ok gs[k] (by simp)
    obtain ⟨B, lc, hB, _⟩ := own_slice hf.locs
    have hr := h.row
    rw [hv'] at hr
    have c0 := hr.cellAt (k * 3) (by omega)
    have c2 := hr.cellAt (k * 3 + 2) (by omega)
    rw [rcells_get gs k hk 2 (by omega)] at c2
    have e0 := rcells_get gs k hk 0 (by omega)
    rw [Nat.add_zero] at e0
    rw [e0] at c0
    refine ⟨g, B, lc, ?_, ?_, ?_⟩
    · rw [hv] at hv'
      injection hv'
    · rw [c0]
      simp [hB, List.getD, hk]
    · rw [c2]
      simp [List.getD, hk])
  rw [sumTo_words] at this
  exact this

theorem rDepthS (h : RStk w X vf gs) : Calls Try.prog 21 #[.pointer (some ⟨X, 0, none⟩)] w fun e w' => e = .returned (.int .i64 (sDepth (abs gs))) ∧ Upd w w' [] := by
  rcases last_cases gs with rfl | ⟨i, f, rfl⟩
  · obtain ⟨A, cap, rfl⟩ := h.nil_
    exact rDepth_none X cap A w h.blk
  · obtain ⟨g, cap, rfl, h1, h2, hr, c0, c1, c2, _⟩ := h.top
    obtain ⟨A, c, hv, _⟩ := own_slice (h.ok f (by simp)).ops
    rw [hv] at c1
    have := rDepth_some X g i.length cap f.ops.length c A w h.blk h2 c1
    rw [abs_snoc]
    simpa [sDepth, onTop_snoc, Fm.m] using this
end
end Go.Proofs.Ytgdjhbnnkadjeaa
