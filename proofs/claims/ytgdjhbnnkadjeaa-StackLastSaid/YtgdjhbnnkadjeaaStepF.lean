/- Stacks with what they leave alone. -/
import Derived.Test.YtgdjhbnnkadjeaaStepE
namespace Go.Proofs.Ytgdjhbnnkadjeaa
open Go.RowKit

/-- The blocks of P are as they were. -/
structure Fix (P : Nat → Prop) (w w' : World) : Prop where
  os : w'.os = w.os
  tape : w'.tape = w.tape
  output : w'.output = w.output
  size : w.heap.size ≤ w'.heap.size
  block : ∀ b, P b → w'.heap[b]? = w.heap[b]?

/-- A stack at S that holds s and owns none of the blocks of P. -/
def ImpP (P : Nat → Prop) (w : World) (S : Nat) (s : List M) : Prop :=
  ∃ vf fs, Stk w S vf fs ∧ abs fs = s ∧ ∀ b, P b → b < w.heap.size ∧ b ∉ fpI S vf fs
def RefP (P : Nat → Prop) (w : World) (X : Nat) (s : List M) : Prop :=
  ∃ vf gs, RStk w X vf gs ∧ abs gs = s ∧ ∀ b, P b → b < w.heap.size ∧ b ∉ fpR X vf gs
def Both (P : Nat → Prop) (w : World) (S X : Nat) (s t : List M) : Prop :=
  ∃ vf fs vr gs, Stk w S vf fs ∧ RStk w X vr gs ∧ abs fs = s ∧ abs gs = t ∧ (∀ b, b ∈ fpR X vr gs → b ∉ fpI S vf fs) ∧ ∀ b, P b → b < w.heap.size ∧ b ∉ fpI S vf fs ∧ b ∉ fpR X vr gs

section
variable {P : Nat → Prop} {w w' : World} {S X : Nat} {s s' t t' : List M}

theorem Stk.fp_lt {vf : Value} {fs : List Fm} (h : Stk w S vf fs) {k : Nat} (hk : k ∈ fpI S vf fs) : k < w.heap.size := by
  simp only [fpI, List.mem_cons, List.mem_append, List.mem_map] at hk
  rcases hk with rfl | hk | ⟨f, hf, rfl⟩ | hk
  · exact h.blk.lt
  · exact own_lt h.row hk
  · exact (h.ok f hf).blk.lt
  · exact h.vb_lt hk
theorem RStk.fp_lt {vf : Value} {gs : List Fm} (h : RStk w X vf gs) {k : Nat} (hk : k ∈ fpR X vf gs) : k < w.heap.size := by
  simp only [fpR, List.mem_cons, List.mem_append] at hk
  rcases hk with rfl | hk | hk
  · exact h.blk.lt
  · exact own_lt h.row hk
  · exact h.vb_lt hk

theorem Fix.refl (P : Nat → Prop) (w : World) : Fix P w w := ⟨rfl, rfl, rfl, Nat.le_refl _, fun _ _ => rfl⟩
theorem Fix.trans {a b c : World} (h : Fix P a b) (k : Fix P b c) : Fix P a c :=
  ⟨k.os.trans h.os, k.tape.trans h.tape, k.output.trans h.output, Nat.le_trans h.size k.size, fun x hx => (k.block x hx).trans (h.block x hx)⟩
theorem Fix.mono {Q : Nat → Prop} (h : Fix P w w') (hq : ∀ b, Q b → P b) : Fix Q w w' := ⟨h.os, h.tape, h.output, h.size, fun b hb => h.block b (hq b hb)⟩
theorem Fix.of_upd {F : List Nat} (h : Upd w w' F) (hP : ∀ b, P b → b < w.heap.size ∧ b ∉ F) : Fix P w w' := ⟨h.os, h.tape, h.output, h.size, fun b hb => h.block b (hP b hb).1 (hP b hb).2⟩
theorem Fix.blk (h : Fix P w w') {g : Nat} {t : TypeId} {cs : Array Value} (hb : Blk w g t cs) (hg : P g) : Blk w' g t cs := (h.block g hg).trans hb
theorem Fix.below {B : Nat} (h : Fix P w w') (hP : ∀ b, b < B → P b) : Below B w w' := ⟨h.os, h.tape, h.output, h.size, fun b hb => h.block b (hP b hb)⟩

theorem ImpP.of_post {vf : Value} {fs : List Fm} {r e : Ending} (hP : ∀ b, P b → b < w.heap.size ∧ b ∉ fpI S vf fs) (h : IPost S vf fs w s' r e w') : e = r ∧ ImpP P w' S s' ∧ Fix P w w' := by
  obtain ⟨he, vf', fs', hs, ha, hk⟩ := h
  have hF := Fix.of_upd hk.upd hP
  refine ⟨he, ⟨vf', fs', hs, ha, fun b hb => ⟨Nat.lt_of_lt_of_le (hP b hb).1 hk.upd.size, fun hm => ?_⟩⟩, hF⟩
  rcases hk.own b hm with h1 | h1
  · exact (hP b hb).2 h1
  · have := (hP b hb).1; omega
theorem RefP.of_post {vf : Value} {gs : List Fm} {r e : Ending} (hP : ∀ b, P b → b < w.heap.size ∧ b ∉ fpR X vf gs) (h : RPost X vf gs w s' r e w') : e = r ∧ RefP P w' X s' ∧ Fix P w w' := by
  obtain ⟨he, vf', gs', hs, ha, hk⟩ := h
  have hF := Fix.of_upd hk.upd hP
  refine ⟨he, ⟨vf', gs', hs, ha, fun b hb => ⟨Nat.lt_of_lt_of_le (hP b hb).1 hk.upd.size, fun hm => ?_⟩⟩, hF⟩
  rcases hk.own b hm with h1 | h1
  · exact (hP b hb).2 h1
  · have := (hP b hb).1; omega

/-- The new world is the old one and more. -/
theorem ImpP.grow (h : ImpP P w S s) (hU : Upd w w' []) : ImpP P w' S s := by
  obtain ⟨vf, fs, hs, ha, hp⟩ := h
  exact ⟨vf, fs, hs.same hU, ha, fun b hb => ⟨Nat.lt_of_lt_of_le (hp b hb).1 hU.size, (hp b hb).2⟩⟩
theorem Both.grow (h : Both P w S X s t) (hU : Upd w w' []) : Both P w' S X s t := by
  obtain ⟨vf, fs, vr, gs, hs, hr, ha, hb, hd, hp⟩ := h
  exact ⟨vf, fs, vr, gs, hs.same hU, hr.same hU, ha, hb, hd, fun b hb => ⟨Nat.lt_of_lt_of_le (hp b hb).1 hU.size, (hp b hb).2⟩⟩
/-- A block that has just come is nobody's. -/
theorem ImpP.with_ (h : ImpP P w S s) (hU : Upd w w' []) {b0 : Nat} (h0 : w.heap.size ≤ b0) (h1 : b0 < w'.heap.size) : ImpP (fun b => P b ∨ b = b0) w' S s := by
  obtain ⟨vf, fs, hs, ha, hp⟩ := h
  refine ⟨vf, fs, hs.same hU, ha, fun b hb => ?_⟩
  rcases hb with hb | rfl
  · exact ⟨Nat.lt_of_lt_of_le (hp b hb).1 hU.size, (hp b hb).2⟩
  · exact ⟨h1, fun hm => by have := hs.fp_lt hm; omega⟩
theorem Both.with_ (h : Both P w S X s t) (hU : Upd w w' []) {b0 : Nat} (h0 : w.heap.size ≤ b0) (h1 : b0 < w'.heap.size) : Both (fun b => P b ∨ b = b0) w' S X s t := by
  obtain ⟨vf, fs, vr, gs, hs, hr, ha, hb, hd, hp⟩ := h
  refine ⟨vf, fs, vr, gs, hs.same hU, hr.same hU, ha, hb, hd, fun b hb => ?_⟩
  rcases hb with hb | rfl
  · exact ⟨Nat.lt_of_lt_of_le (hp b hb).1 hU.size, (hp b hb).2⟩
  · exact ⟨h1, fun hm => by have := hs.fp_lt hm; omega, fun hm => by have := hr.fp_lt hm; omega⟩
theorem ImpP.mono {Q : Nat → Prop} (h : ImpP P w S s) (hq : ∀ b, Q b → P b) : ImpP Q w S s := by
  obtain ⟨vf, fs, hs, ha, hp⟩ := h
  exact ⟨vf, fs, hs, ha, fun b hb => hp b (hq b hb)⟩
theorem Both.mono {Q : Nat → Prop} (h : Both P w S X s t) (hq : ∀ b, Q b → P b) : Both Q w S X s t := by
  obtain ⟨vf, fs, vr, gs, hs, hr, ha, hb, hd, hp⟩ := h
  exact ⟨vf, fs, vr, gs, hs, hr, ha, hb, hd, fun b hb => hp b (hq b hb)⟩

/-- A step of the stack beside the reference's. -/
theorem Both.imp {f : FuncId} {args : Array Value} {r : Ending} (h : Both P w S X s t)
    (hc : ∀ Q : Nat → Prop, ImpP Q w S s → Calls Try.prog f args w fun e w' => e = r ∧ ImpP Q w' S s' ∧ Fix Q w w') :
    Calls Try.prog f args w fun e w' => e = r ∧ Both P w' S X s' t ∧ Fix P w w' := by
  obtain ⟨vf, fs, vr, gs, hs, hr, ha, hb, hd, hp⟩ := h
  refine (hc (fun b => P b ∨ b ∈ fpR X vr gs) ⟨vf, fs, hs, ha, fun b hb => ?_⟩).mono ?_
  · rcases hb with hb | hb
    · exact ⟨(hp b hb).1, (hp b hb).2.1⟩
    · exact ⟨hr.fp_lt hb, hd b hb⟩
  · rintro e w' ⟨he, ⟨vf', fs', hs', ha', hp'⟩, hF⟩
    refine ⟨he, ⟨vf', fs', vr, gs, hs', ?_, ha', hb, fun b hb => (hp' b (.inr hb)).2, fun b hb => ⟨(hp' b (.inl hb)).1, (hp' b (.inl hb)).2, (hp b hb).2.2⟩⟩, hF.mono fun b hb => .inl hb⟩
    have hU : Upd w w' ((List.range w.heap.size).filter fun b => decide (b ∉ fpR X vr gs)) := ⟨hF.os, hF.tape, hF.output, hF.size, fun b hb hn => hF.block b (.inr (by simpa [hb] using hn))⟩
    exact hr.upd hU fun k hk => by simp [hk]
theorem Both.ref {f : FuncId} {args : Array Value} {r : Ending} (h : Both P w S X s t)
    (hc : ∀ Q : Nat → Prop, RefP Q w X t → Calls Try.prog f args w fun e w' => e = r ∧ RefP Q w' X t' ∧ Fix Q w w') :
    Calls Try.prog f args w fun e w' => e = r ∧ Both P w' S X s t' ∧ Fix P w w' := by
  obtain ⟨vf, fs, vr, gs, hs, hr, ha, hb, hd, hp⟩ := h
  refine (hc (fun b => P b ∨ b ∈ fpI S vf fs) ⟨vr, gs, hr, hb, fun b hb => ?_⟩).mono ?_
  · rcases hb with hb | hb
    · exact ⟨(hp b hb).1, (hp b hb).2.2⟩
    · exact ⟨hs.fp_lt hb, fun hm => hd b hm hb⟩
  · rintro e w' ⟨he, ⟨vr', gs', hr', hb', hp'⟩, hF⟩
    refine ⟨he, ⟨vf, fs, vr', gs', ?_, hr', ha, hb', fun b hb hm => (hp' b (.inr hm)).2 hb, fun b hb => ⟨(hp' b (.inl hb)).1, (hp b hb).2.1, (hp' b (.inl hb)).2⟩⟩, hF.mono fun b hb => .inl hb⟩
    have hU : Upd w w' ((List.range w.heap.size).filter fun b => decide (b ∉ fpI S vf fs)) := ⟨hF.os, hF.tape, hF.output, hF.size, fun b hb hn => hF.block b (.inr (by simpa [hb] using hn))⟩
    exact hs.upd hU fun k hk => by simp [hk]
end

/-! ### The contracts by what a stack holds -/
section
variable {P : Nat → Prop} {w : World} {S X : Nat} {s : List M}
def IP (P : Nat → Prop) (w : World) (S : Nat) (s' : List M) (r : Ending) (e : Ending) (w' : World) : Prop := e = r ∧ ImpP P w' S s' ∧ Fix P w w'
def RP (P : Nat → Prop) (w : World) (X : Nat) (s' : List M) (r : Ending) (e : Ending) (w' : World) : Prop := e = r ∧ RefP P w' X s' ∧ Fix P w w'

theorem ImpP.read {f : FuncId} {args : Array Value} {r : Ending} (h : ImpP P w S s) (hc : ∀ vf fs, Stk w S vf fs → abs fs = s → Calls Try.prog f args w fun e w' => e = r ∧ Upd w w' []) :
    Calls Try.prog f args w (IP P w S s r) := by
  obtain ⟨vf, fs, hs, ha, hp⟩ := h
  exact (hc vf fs hs ha).mono fun e w' ⟨he, hU⟩ => ⟨he, ⟨vf, fs, hs.same hU, ha, fun b hb => ⟨Nat.lt_of_lt_of_le (hp b hb).1 hU.size, (hp b hb).2⟩⟩, Fix.of_upd hU fun b hb => ⟨(hp b hb).1, by simp⟩⟩
theorem RefP.read {f : FuncId} {args : Array Value} {r : Ending} (h : RefP P w X s) (hc : ∀ vf gs, RStk w X vf gs → abs gs = s → Calls Try.prog f args w fun e w' => e = r ∧ Upd w w' []) :
    Calls Try.prog f args w (RP P w X s r) := by
  obtain ⟨vf, gs, hs, ha, hp⟩ := h
  exact (hc vf gs hs ha).mono fun e w' ⟨he, hU⟩ => ⟨he, ⟨vf, gs, hs.same hU, ha, fun b hb => ⟨Nat.lt_of_lt_of_le (hp b hb).1 hU.size, (hp b hb).2⟩⟩, Fix.of_upd hU fun b hb => ⟨(hp b hb).1, by simp⟩⟩
theorem ImpP.step {f : FuncId} {args : Array Value} {r : Ending} {s' : List M} (h : ImpP P w S s) (hc : ∀ vf fs, Stk w S vf fs → abs fs = s → Calls Try.prog f args w (IPost S vf fs w s' r)) :
    Calls Try.prog f args w (IP P w S s' r) := by
  obtain ⟨vf, fs, hs, ha, hp⟩ := h
  exact (hc vf fs hs ha).mono fun e w' hh => ImpP.of_post hp hh
theorem RefP.step {f : FuncId} {args : Array Value} {r : Ending} {s' : List M} (h : RefP P w X s) (hc : ∀ vf gs, RStk w X vf gs → abs gs = s → Calls Try.prog f args w (RPost X vf gs w s' r)) :
    Calls Try.prog f args w (RP P w X s' r) := by
  obtain ⟨vf, gs, hs, ha, hp⟩ := h
  exact (hc vf gs hs ha).mono fun e w' hh => RefP.of_post hp hh

theorem pEnter (h : ImpP P w S s) (l r : Int) : Calls Try.prog 9 #[.pointer (some ⟨S, 0, none⟩), .int .i64 l, .int .i64 r] w (IP P w S (sEnter s l r).1 (.returned (.int .i64 (sEnter s l r).2))) := h.step fun _ _ hs ha => ha ▸ iEnter hs l r
theorem pLeave (h : ImpP P w S s) : Calls Try.prog 11 #[.pointer (some ⟨S, 0, none⟩)] w (IP P w S (sLeave s).1 (.returned (.int .i64 (sLeave s).2))) := h.step fun _ _ hs ha => ha ▸ iLeave hs
theorem pPut (h : ImpP P w S s) (v : V2) : Calls Try.prog 13 #[.pointer (some ⟨S, 0, none⟩), v.val] w (IP P w S (sPut s v).1 (.returned (.int .i64 (sPut s v).2))) := h.step fun _ _ hs ha => ha ▸ iPut hs v
theorem pTake (h : ImpP P w S s) : Calls Try.prog 17 #[.pointer (some ⟨S, 0, none⟩)] w (IP P w S (sTake s).1 (.returned (.tuple #[(sTake s).2.1.val, .int .i64 (sTake s).2.2]))) := h.step fun _ _ hs ha => ha ▸ iTake hs
theorem pSet (h : ImpP P w S s) (k : Int) (v : V2) : Calls Try.prog 14 #[.pointer (some ⟨S, 0, none⟩), .int .i64 k, v.val] w (IP P w S (sSet s k v).1 (.returned (.int .i64 (sSet s k v).2))) := h.step fun _ _ hs ha => ha ▸ iSet hs k v
theorem pPeek (h : ImpP P w S s) (k : Int) : Calls Try.prog 22 #[.pointer (some ⟨S, 0, none⟩), .int .i64 k] w (IP P w S s (.returned (.tuple #[(sPeek s k).1.val, .int .i64 (sPeek s k).2]))) := h.read fun _ _ hs ha => ha ▸ iPeek hs k
theorem pLocal (h : ImpP P w S s) (k : Int) : Calls Try.prog 15 #[.pointer (some ⟨S, 0, none⟩), .int .i64 k] w (IP P w S s (.returned (.tuple #[(sLocal s k).1.val, .int .i64 (sLocal s k).2]))) := h.read fun _ _ hs ha => ha ▸ iLocal hs k
theorem pWords (h : ImpP P w S s) : Calls Try.prog 10 #[.pointer (some ⟨S, 0, none⟩)] w (IP P w S s (.returned (.int .i64 (msum s)))) := h.read fun _ _ hs ha => ha ▸ iWords hs
theorem pFrames (h : ImpP P w S s) : Calls Try.prog 12 #[.pointer (some ⟨S, 0, none⟩)] w (IP P w S s (.returned (.int .i64 s.length))) := h.read fun _ _ hs ha => ha ▸ iFrames hs
theorem pDepth (h : ImpP P w S s) : Calls Try.prog 20 #[.pointer (some ⟨S, 0, none⟩)] w (IP P w S s (.returned (.int .i64 (sDepth s)))) := h.read fun _ _ hs ha => ha ▸ iDepth hs

theorem qEnter (h : RefP P w X s) (l r : Int) : Calls Try.prog 28 #[.pointer (some ⟨X, 0, none⟩), .int .i64 l, .int .i64 r] w (RP P w X (sEnter s l r).1 (.returned (.int .i64 (sEnter s l r).2))) := h.step fun _ _ hs ha => ha ▸ rEnterS hs l r
theorem qLeave (h : RefP P w X s) : Calls Try.prog 29 #[.pointer (some ⟨X, 0, none⟩)] w (RP P w X (sLeave s).1 (.returned (.int .i64 (sLeave s).2))) := h.step fun _ _ hs ha => ha ▸ rLeaveS hs
theorem qPut (h : RefP P w X s) (v : V2) : Calls Try.prog 30 #[.pointer (some ⟨X, 0, none⟩), v.val] w (RP P w X (sPut s v).1 (.returned (.int .i64 (sPut s v).2))) := h.step fun _ _ hs ha => ha ▸ rPutS hs v
theorem qTake (h : RefP P w X s) : Calls Try.prog 31 #[.pointer (some ⟨X, 0, none⟩)] w (RP P w X (sTake s).1 (.returned (.tuple #[(sTake s).2.1.val, .int .i64 (sTake s).2.2]))) := h.step fun _ _ hs ha => ha ▸ rTakeS hs
theorem qSet (h : RefP P w X s) (k : Int) (v : V2) : Calls Try.prog 34 #[.pointer (some ⟨X, 0, none⟩), .int .i64 k, v.val] w (RP P w X (sSet s k v).1 (.returned (.int .i64 (sSet s k v).2))) := h.step fun _ _ hs ha => ha ▸ rSetS hs k v
theorem qPeek (h : RefP P w X s) (k : Int) : Calls Try.prog 32 #[.pointer (some ⟨X, 0, none⟩), .int .i64 k] w (RP P w X s (.returned (.tuple #[(sPeek s k).1.val, .int .i64 (sPeek s k).2]))) := h.read fun _ _ hs ha => ha ▸ rPeekS hs k
theorem qLocal (h : RefP P w X s) (k : Int) : Calls Try.prog 33 #[.pointer (some ⟨X, 0, none⟩), .int .i64 k] w (RP P w X s (.returned (.tuple #[(sLocal s k).1.val, .int .i64 (sLocal s k).2]))) := h.read fun _ _ hs ha => ha ▸ rLocalS hs k
theorem qWords (h : RefP P w X s) : Calls Try.prog 19 #[.pointer (some ⟨X, 0, none⟩)] w (RP P w X s (.returned (.int .i64 (msum s)))) := h.read fun vf gs hs ha => by
  rw [← ha, msum_abs]
  exact (rWordsS hs).mono fun e w' ⟨he, d, hd⟩ => ⟨he, by rw [hd]; exact (Upd.refl _ _).drewN d⟩
theorem qDepth (h : RefP P w X s) : Calls Try.prog 21 #[.pointer (some ⟨X, 0, none⟩)] w (RP P w X s (.returned (.int .i64 (sDepth s)))) := h.read fun _ _ hs ha => ha ▸ rDepthS hs
end
end Go.Proofs.Ytgdjhbnnkadjeaa
