/- What both stacks tell; the start. -/
import Derived.Test.YtgdjhbnnkadjeaaLawC
namespace Go.Proofs.Ytgdjhbnnkadjeaa
open Go.RowKit
theorem Words_same (S : Nat) (vf : Value) (words : Int) (w : World) (hS : Blk w S 52 #[vf, .int .i64 words]) :
    Calls Try.prog 10 #[.pointer (some ⟨S, 0, none⟩)] w fun e w' => e = .returned (.int .i64 words) ∧ w = w' := by
  have h1 := hS.cell 1
  simp at h1
  go_enter Try.func10, Try.ntmps10
  go_wp2
  go_ret
  exact ⟨rfl, rfl⟩
theorem Frames_same (S n cap : Nat) (A : Option Addr) (words : Value) (w : World) (hS : Blk w S 52 #[.slice A n cap, words]) :
    Calls Try.prog 12 #[.pointer (some ⟨S, 0, none⟩)] w fun e w' => e = .returned (.int .i64 n) ∧ w = w' := by
  have h1 := hS.cell 0
  simp at h1
  go_enter Try.func12, Try.ntmps12
  go_wp2
  go_ret
  exact ⟨rfl, rfl⟩
theorem Depth_none' (S cap : Nat) (A : Option Addr) (words : Int) (w : World) (hS : Blk w S 52 #[.slice A 0 cap, .int .i64 words]) :
    Calls Try.prog 20 #[.pointer (some ⟨S, 0, none⟩)] w fun e w' => e = .returned (.int .i64 0) ∧ ∃ k, w' = w.drewN k := by
  go_enter Try.func20, Try.ntmps20
  go_wp2_with fail
  refine (top_empty S cap A words _ hS).mono ?_
  rintro e w1 ⟨rfl, rfl⟩
  go_wp2
  go_ret
  exact ⟨rfl, 0, rfl⟩
theorem Depth_some' (S g n cap fb no co : Nat) (A : Option Addr) (words : Int) (r vl : Value) (w : World) (hn : n + 1 ≤ cap) (hcap : cap ≤ maxLen)
    (hS : Blk w S 52 #[.slice (some ⟨g, 0, none⟩) (n + 1) cap, .int .i64 words]) (hp : w.cell? ⟨g, n, none⟩ = some (.pointer (some ⟨fb, 0, none⟩)))
    (hF : Blk w fb 57 #[.slice A no co, r, vl]) :
    Calls Try.prog 20 #[.pointer (some ⟨S, 0, none⟩)] w fun e w' => e = .returned (.int .i64 no) ∧ ∃ k, w' = w.drewN k := by
  have x0 := hF.cell 0
  simp at x0
  go_enter Try.func20, Try.ntmps20
  go_wp2_with fail
  refine (top_some S g n cap _ _ _ hn hcap hS hp).mono ?_
  rintro e w1 ⟨rfl, j, rfl⟩
  go_wp2
  go_ret
  exact ⟨rfl, _, rfl⟩
theorem rDepth_none' (X cap : Nat) (A : Option Addr) (w : World) (hX : Blk w X 46 #[.slice A 0 cap]) :
    Calls Try.prog 21 #[.pointer (some ⟨X, 0, none⟩)] w fun e w' => e = .returned (.int .i64 0) ∧ ∃ k, w' = w.drewN k := by
  have h0 := hX.cell 0
  simp at h0
  go_enter Try.func21, Try.ntmps21
  go_wp2
  go_ret
  exact ⟨rfl, 0, rfl⟩
theorem rDepth_some' (X g n cap no co : Nat) (B : Option Addr) (w : World) (hX : Blk w X 46 #[.slice (some ⟨g, 0, none⟩) (n + 1) cap]) (hn : n ≤ 4000)
    (c1 : w.cell? ⟨g, n * 3 + 1, none⟩ = some (.slice B no co)) :
    Calls Try.prog 21 #[.pointer (some ⟨X, 0, none⟩)] w fun e w' => e = .returned (.int .i64 no) ∧ ∃ k, w' = w.drewN k := by
  have h0 := hX.cell 0
  simp at h0
  go_enter Try.func21, Try.ntmps21
  go_wp2
  go_quiet (fail)
  go_wp2
  go_ret
  exact ⟨rfl, _, rfl⟩

section
variable {P : Nat → Prop} {w : World} {S X : Nat} {s t : List M}
theorem bFrames (h : Both P w S X s t) : Calls Try.prog 12 #[.pointer (some ⟨S, 0, none⟩)] w fun e w' => e = .returned (.int .i64 s.length) ∧ w = w' := by
  obtain ⟨vf, fs, vr, gs, hs, hr, ha, hb, hd, hp⟩ := h
  obtain ⟨A, cap, hv, _⟩ := own_slice hs.row
  have hB := hs.blk
  rw [hv] at hB
  have hh := Frames_same S fs.length cap A _ w hB
  rw [← ha, show (abs fs).length = fs.length by simp [abs]]
  exact hh
theorem bWords (h : Both P w S X s t) : Calls Try.prog 10 #[.pointer (some ⟨S, 0, none⟩)] w fun e w' => e = .returned (.int .i64 (msum s)) ∧ w = w' := by
  obtain ⟨vf, fs, vr, gs, hs, hr, ha, hb, hd, hp⟩ := h
  rw [← ha, msum_abs]
  exact Words_same S vf _ w hs.blk
theorem bDepth (h : Both P w S X s t) : Calls Try.prog 20 #[.pointer (some ⟨S, 0, none⟩)] w fun e w' => e = .returned (.int .i64 (sDepth s)) ∧ ∃ k, w' = w.drewN k := by
  obtain ⟨vf, fs, vr, gs, h, hr, ha, hb, hd, hp⟩ := h
  subst ha
  rcases last_cases fs with rfl | ⟨i, f, rfl⟩
  · obtain ⟨A, cap, rfl⟩ := h.nil_
    exact Depth_none' S cap A _ w h.blk
  · obtain ⟨g, cap, rfl, h1, h2, h3⟩ := h.top
    have hf := h.ok f (by simp)
    obtain ⟨A, c, hv, _⟩ := own_slice hf.ops
    have hb := hf.blk
    rw [hv] at hb
    have := Depth_some' S g i.length cap f.fb f.ops.length c A _ _ _ w h1 h2 h.blk h3 hb
    rw [abs_snoc]
    simpa [sDepth, onTop_snoc, Fm.m] using this
theorem bRWords (h : Both P w S X s t) : Calls Try.prog 19 #[.pointer (some ⟨X, 0, none⟩)] w fun e w' => e = .returned (.int .i64 (msum t)) ∧ ∃ k, w' = w.drewN k := by
  obtain ⟨vf, fs, vr, gs, hs, hr, ha, hb, hd, hp⟩ := h
  rw [← hb, msum_abs]
  exact rWordsS hr
theorem bRDepth (h : Both P w S X s t) : Calls Try.prog 21 #[.pointer (some ⟨X, 0, none⟩)] w fun e w' => e = .returned (.int .i64 (sDepth t)) ∧ ∃ k, w' = w.drewN k := by
  obtain ⟨vf, fs, vr, gs, hs, h, ha, hb, hd, hp⟩ := h
  subst hb
  rcases last_cases gs with rfl | ⟨i, f, rfl⟩
  · obtain ⟨A, cap, rfl⟩ := h.nil_
    exact rDepth_none' X cap A w h.blk
  · obtain ⟨g, cap, rfl, h1, h2, hr, c0, c1, c2, _⟩ := h.top
    obtain ⟨A, c, hv, _⟩ := own_slice (h.ok f (by simp)).ops
    rw [hv] at c1
    have := rDepth_some' X g i.length cap f.ops.length c A w h.blk h2 c1
    rw [abs_snoc]
    simpa [sDepth, onTop_snoc, Fm.m] using this
theorem bX (h : Both P w S X s t) : ∃ A cap, w.cell? ⟨X, 0, none⟩ = some (.slice A t.length cap) ∧ X < w.heap.size := by
  obtain ⟨vf, fs, vr, gs, hs, hr, ha, hb, hd, hp⟩ := h
  obtain ⟨A, cap, hv, _⟩ := own_slice hr.row
  have hB := hr.blk
  rw [hv] at hB
  refine ⟨A, cap, ?_, hB.lt⟩
  rw [hB.cell 0, ← hb]
  simp [abs]
end

/-- The start: a new stack beside a new reference's. -/
theorem both_start {w w1 w2 : World} {S : Nat} (h : ImpP (fun b => b < w.heap.size) w1 S []) (h2 : w2 = w1.alloc (.cells #[.slice none 0 0] 46)) :
    Both (fun b => b < w.heap.size) w2 S w1.heap.size [] [] := by
  subst h2
  obtain ⟨vf, fs, hs, ha, hp⟩ := h
  obtain rfl : fs = [] := by cases fs with
    | nil => rfl
    | cons a t => simp [abs] at ha
  refine ⟨vf, [], .slice none 0 0, [], hs.same ((Upd.refl w1 []).alloc _), ⟨Blk.new _ _ _, World.ownsRow_nil _ _ _ _, by simp, by simp [vb], by simp [wsum]⟩, rfl, rfl, ?_, ?_⟩
  · intro b hb hb2
    have := hs.fp_lt hb2
    simp [fpR, vb, Value.ob, Value.ownBlock] at hb
    omega
  · intro b hb
    have := hp b hb
    refine ⟨by simp; omega, this.2, ?_⟩
    simp [fpR, vb, Value.ob, Value.ownBlock]
    omega
end Go.Proofs.Ytgdjhbnnkadjeaa
