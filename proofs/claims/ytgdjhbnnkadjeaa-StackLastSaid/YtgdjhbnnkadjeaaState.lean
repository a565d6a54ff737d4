/-
  What a stack owns, told as a list of frames; the document's steps on such lists. No program text.
-/
import Derived.Test.YtgdjhbnnkadjeaaBase
namespace Go.Proofs.Ytgdjhbnnkadjeaa
open Go.RowKit

/-- The element type of a block of cells. -/
def ty (w : World) (b : Nat) : Option TypeId :=
  match w.heap[b]? with
  | some (.cells _ t _) => some t
  | _ => none
theorem Blk.ty {w : World} {g : Nat} {t : TypeId} {cs : Array Value} (h : Blk w g t cs) : Ytgdjhbnnkadjeaa.ty w g = some t := by
  unfold Blk at h
  simp [Ytgdjhbnnkadjeaa.ty, h]
theorem own_ty {w : World} {base : Nat} {e : TypeId} {size n : Nat} {v : Value} {xs : List Value} (h : w.ownsRow base e size v n xs) {k : Nat} (hk : k ∈ Value.ob v) : Ytgdjhbnnkadjeaa.ty w k = some e := by
  have hk' := mem_ob.1 hk
  rcases h.2 with ⟨rfl, _⟩ | ⟨g', cap, cur, rfl, _, hh, _⟩
  · simp [Value.ownBlock] at hk'
  · have : g' = k := by simpa [Value.ownBlock] using hk'
    subst this
    simp [Ytgdjhbnnkadjeaa.ty, hh]
theorem own_lt {w : World} {base : Nat} {e : TypeId} {size n : Nat} {v : Value} {xs : List Value} (h : w.ownsRow base e size v n xs) {k : Nat} (hk : k ∈ Value.ob v) : k < w.heap.size := (h.lt k (mem_ob.1 hk)).2
theorem ob_nodup (v : Value) : (Value.ob v).Nodup := by
  unfold Value.ob
  cases v.ownBlock <;> simp

/-- What a frame holds, told without its place. -/
structure M where
  ops : List V2
  locs : List V2
  room : Nat
def Fm.m (f : Fm) : M := ⟨f.ops, f.locs, f.room⟩
def abs (fs : List Fm) : List M := fs.map Fm.m
def M.words (m : M) : Nat := m.locs.length + m.room + 3
def msum (s : List M) : Nat := (s.map M.words).sum
theorem msum_abs (fs : List Fm) : msum (abs fs) = wsum fs := by simp [msum, abs, wsum]; rfl

def onTop {α : Type} (s : List M) (a : α) (f : List M → M → α) : α :=
  match s.getLast? with
  | none => a
  | some m => f s.dropLast m
theorem onTop_nil {α : Type} (a : α) (f : List M → M → α) : onTop [] a f = a := rfl
theorem onTop_snoc {α : Type} (i : List M) (m : M) (a : α) (f : List M → M → α) : onTop (i ++ [m]) a f = f i m := by simp [onTop]

def sEnter (s : List M) (l r : Int) : List M × Int :=
  if l < 0 ∨ 40 < l ∨ r < 0 ∨ 40 < r then (s, 2)
  else if 4000 < msum s + l.toNat + r.toNat + 3 then (s, 33)
  else (s ++ [⟨[], List.replicate l.toNat zero2, r.toNat⟩], 0)
def sLeave (s : List M) : List M × Int := onTop s (s, 6) fun i _ => (i, 0)
def sPut (s : List M) (v : V2) : List M × Int := onTop s (s, 6) fun i m => if m.room ≤ m.ops.length then (s, 35) else (i ++ [{ m with ops := m.ops ++ [v] }], 0)
def sTake (s : List M) : List M × V2 × Int := onTop s (s, zero2, 6) fun i m => match m.ops.getLast? with
  | none => (s, zero2, 35)
  | some v => (i ++ [{ m with ops := m.ops.dropLast }], v, 0)
def sPeek (s : List M) (k : Int) : V2 × Int := onTop s (zero2, 6) fun _ m => if k < 0 ∨ (m.ops.length : Int) ≤ k then (zero2, 35) else (m.ops.getD (m.ops.length - 1 - k.toNat) zero2, 0)
def sLocal (s : List M) (k : Int) : V2 × Int := onTop s (zero2, 6) fun _ m => if k < 0 ∨ (m.locs.length : Int) ≤ k then (zero2, 3) else (m.locs.getD k.toNat zero2, 0)
def sSet (s : List M) (k : Int) (v : V2) : List M × Int := onTop s (s, 6) fun i m => if k < 0 ∨ (m.locs.length : Int) ≤ k then (s, 3) else (i ++ [{ m with locs := m.locs.set k.toNat v }], 0)
def sDepth (s : List M) : Nat := onTop s 0 fun _ m => m.ops.length

/-- At most F has turned; of the rows of values each was there, or is new. -/
structure Keep (w w' : World) (F F' V V' : List Nat) : Prop where
  upd : Upd w w' F
  own : ∀ k, k ∈ F' → k ∈ F ∨ w.heap.size ≤ k
  vals : ∀ k, k ∈ V' → k ∈ V ∨ w.heap.size ≤ k
theorem Keep.refl {w w' : World} {F V : List Nat} (h : Upd w w' []) : Keep w w' F F V V := ⟨h.mono (by simp), fun _ h => .inl h, fun _ h => .inl h⟩

def fpI (S : Nat) (vf : Value) (fs : List Fm) : List Nat := S :: (Value.ob vf ++ (fs.map Fm.fb ++ vb fs))

theorem vb_append (a b : List Fm) : vb (a ++ b) = vb a ++ vb b := by simp [vb]
theorem ptrs_append (a b : List Fm) : ptrs (a ++ b) = ptrs a ++ ptrs b := by simp [ptrs]
theorem wsum_append (a b : List Fm) : wsum (a ++ b) = wsum a + wsum b := by simp [wsum]
theorem abs_append (a b : List Fm) : abs (a ++ b) = abs a ++ abs b := by simp [abs]
theorem mem_vb {fs : List Fm} {k : Nat} : k ∈ vb fs ↔ ∃ f, f ∈ fs ∧ k ∈ f.vals := by simp [vb]
theorem last_cases {α : Type} (l : List α) : l = [] ∨ ∃ i a, l = i ++ [a] := by
  rcases List.eq_nil_or_concat l with h | ⟨i, a, h⟩
  · exact .inl h
  · exact .inr ⟨i, a, by simpa using h⟩

theorem Fm.Ok.upd {w w' : World} {F : List Nat} {f : Fm} (h : f.Ok w) (hU : Upd w w' F) (h1 : f.fb ∉ F) (h2 : ∀ k, k ∈ f.vals → k ∉ F) : f.Ok w' :=
  ⟨hU.blk h.blk h1, hU.own h.ops fun k hk => h2 k (by simp [Fm.vals, hk]), hU.own h.locs fun k hk => h2 k (by simp [Fm.vals, hk]), h.fits⟩
theorem Fm.Ok.val_ty {w : World} {f : Fm} (h : f.Ok w) {k : Nat} (hk : k ∈ f.vals) : ty w k = some 34 := by
  simp only [Fm.vals, List.mem_append] at hk
  rcases hk with hk | hk
  · exact own_ty h.ops hk
  · exact own_ty h.locs hk
theorem Fm.Ok.val_lt {w : World} {f : Fm} (h : f.Ok w) {k : Nat} (hk : k ∈ f.vals) : k < w.heap.size := by
  simp only [Fm.vals, List.mem_append] at hk
  rcases hk with hk | hk
  · exact own_lt h.ops hk
  · exact own_lt h.locs hk

section
variable {w w' : World} {S : Nat} {vf : Value} {fs : List Fm}
theorem Stk.vb_ty (h : Stk w S vf fs) {k : Nat} (hk : k ∈ vb fs) : ty w k = some 34 := by
  obtain ⟨f, hf, hk⟩ := mem_vb.1 hk
  exact (h.ok f hf).val_ty hk
theorem Stk.vb_lt (h : Stk w S vf fs) {k : Nat} (hk : k ∈ vb fs) : k < w.heap.size := by
  obtain ⟨f, hf, hk⟩ := mem_vb.1 hk
  exact (h.ok f hf).val_lt hk
/-- The types of all that a stack owns. -/
theorem Stk.fp_ty (h : Stk w S vf fs) {k : Nat} (hk : k ∈ fpI S vf fs) : ty w k = some 52 ∨ ty w k = some 53 ∨ ty w k = some 57 ∨ k ∈ vb fs := by
  simp only [fpI, List.mem_cons, List.mem_append, List.mem_map] at hk
  rcases hk with rfl | hk | ⟨f, hf, rfl⟩ | hk
  · exact .inl h.blk.ty
  · exact .inr (.inl (own_ty h.row hk))
  · exact .inr (.inr (.inl (h.ok f hf).blk.ty))
  · exact .inr (.inr (.inr hk))
/-- Whatever turns elsewhere leaves a stack as it is. -/
theorem Stk.upd (h : Stk w S vf fs) {F : List Nat} (hU : Upd w w' F) (hF : ∀ k, k ∈ fpI S vf fs → k ∉ F) : Stk w' S vf fs := by
  refine ⟨hU.blk h.blk (hF S (by simp [fpI])), hU.own h.row fun k hk => hF k (by simp [fpI, hk]), fun f hf => ?_, h.fbs, h.vbs, h.words⟩
  refine (h.ok f hf).upd hU (hF _ ?_) fun k hk => hF _ ?_
  · simp only [fpI, List.mem_cons, List.mem_append, List.mem_map]
    exact .inr (.inr (.inl ⟨f, hf, rfl⟩))
  · simp only [fpI, List.mem_cons, List.mem_append]
    exact .inr (.inr (.inr (mem_vb.2 ⟨f, hf, hk⟩)))
theorem Stk.same (h : Stk w S vf fs) (hU : Upd w w' []) : Stk w' S vf fs := h.upd hU (by simp)

/-- The top frame turned. -/
theorem Stk.turn {i : List Fm} {f f' : Fm} (h : Stk w S vf (i ++ [f])) (hU : Upd w w' (f.fb :: f.vals)) (hfb : f'.fb = f.fb) (hw : f'.words = f.words) (hok : f'.Ok w')
    (hv : ∀ k, k ∈ f'.vals → k ∈ f.vals ∨ w.heap.size ≤ k) (hn : f'.vals.Nodup) :
    Stk w' S vf (i ++ [f']) ∧ Keep w w' (fpI S vf (i ++ [f])) (fpI S vf (i ++ [f'])) (vb (i ++ [f])) (vb (i ++ [f'])) := by
  have hf := h.ok f (by simp)
  have hty : ∀ k, k ∈ f.fb :: f.vals → ty w k = some 57 ∨ ty w k = some 34 := by
    intro k hk
    simp only [List.mem_cons] at hk
    rcases hk with rfl | hk
    · exact .inl hf.blk.ty
    · exact .inr (hf.val_ty hk)
  have hfbs := h.fbs
  have hvbs := h.vbs
  rw [vb_append] at hvbs
  simp only [List.map_append, List.map_cons, List.map_nil, List.nodup_append, List.mem_singleton, List.mem_map] at hfbs
  have hvbs' := List.nodup_append.1 hvbs
  have e1 : vb [f] = f.vals := by simp [vb]
  have e2 : vb [f'] = f'.vals := by simp [vb]
  rw [e1] at hvbs'
  refine ⟨⟨?_, ?_, ?_, ?_, ?_, ?_⟩, ?_⟩
  · rw [wsum_append, show wsum [f'] = wsum [f] by simp [wsum, hw], ← wsum_append]
    refine hU.blk h.blk fun hk => ?_
    have := hty S hk
    rw [h.blk.ty] at this
    simp at this
  · have e : ptrs (i ++ [f']) = ptrs (i ++ [f]) := by simp [ptrs, hfb]
    rw [e]
    have hl : (i ++ [f']).length = (i ++ [f]).length := by simp
    rw [hl]
    refine hU.own h.row fun k hk hk' => ?_
    have := hty k hk'
    rw [own_ty h.row hk] at this
    simp at this
  · intro x hx
    simp only [List.mem_append, List.mem_singleton] at hx
    rcases hx with hx | rfl
    · have hxo := h.ok x (by simp [hx])
      refine hxo.upd hU ?_ ?_
      · intro hk
        simp only [List.mem_cons] at hk
        rcases hk with hk | hk
        · exact hfbs.2.2 x.fb ⟨x, hx, rfl⟩ f.fb rfl hk
        · have := hf.val_ty hk
          rw [hxo.blk.ty] at this
          simp at this
      · intro k hk hk'
        simp only [List.mem_cons] at hk'
        rcases hk' with rfl | hk'
        · have := hxo.val_ty hk
          rw [hf.blk.ty] at this
          simp at this
        · exact hvbs'.2.2 k (mem_vb.2 ⟨x, hx, hk⟩) k hk' rfl
    · exact hok
  · simpa [hfb] using h.fbs
  · rw [vb_append, e2]
    refine List.nodup_append.2 ⟨hvbs'.1, hn, ?_⟩
    rintro a ha b hb rfl
    rcases hv a hb with h1 | h1
    · exact hvbs'.2.2 a ha a h1 rfl
    · have := h.vb_lt (k := a) (by rw [vb_append]; simp [ha])
      omega
  · rw [wsum_append, show wsum [f'] = wsum [f] by simp [wsum, hw], ← wsum_append]
    exact h.words
  · refine ⟨hU.mono ?_, ?_, ?_⟩
    · intro b hb
      simp only [List.mem_cons] at hb
      simp only [fpI, vb_append, e1, List.mem_cons, List.mem_append, List.map_append, List.map_cons, List.map_nil, List.not_mem_nil, or_false]
      rcases hb with rfl | hb
      · simp
      · simp [hb]
    · intro k hk
      simp only [fpI, vb_append, e1, e2, hfb, List.map_append, List.map_cons, List.map_nil, List.mem_cons, List.mem_append, List.not_mem_nil, or_false] at hk ⊢
      rcases hk with hk | hk | (hk | hk) | hk | hk
      · exact .inl (.inl hk)
      · exact .inl (.inr (.inl hk))
      · exact .inl (.inr (.inr (.inl (.inl hk))))
      · exact .inl (.inr (.inr (.inl (.inr hk))))
      · exact .inl (.inr (.inr (.inr (.inl hk))))
      · rcases hv k hk with h1 | h1
        · exact .inl (.inr (.inr (.inr (.inr h1))))
        · exact .inr h1
    · intro k hk
      rw [vb_append, e2] at hk
      rw [vb_append, e1]
      simp only [List.mem_append] at hk ⊢
      rcases hk with hk | hk
      · exact .inl (.inl hk)
      · rcases hv k hk with h1 | h1
        · exact .inl (.inr h1)
        · exact .inr h1
end

end Go.Proofs.Ytgdjhbnnkadjeaa
