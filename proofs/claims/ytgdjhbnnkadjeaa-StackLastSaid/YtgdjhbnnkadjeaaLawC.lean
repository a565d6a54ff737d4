/- One thing done to a stack and to the reference's: the answers are the same. -/
import Derived.Test.YtgdjhbnnkadjeaaLawA
import Derived.Deep.RegionHeld3
namespace Go.Proofs.Ytgdjhbnnkadjeaa
open Go.RowKit

theorem same_any (a b : V2) (w : World) : Calls Try.prog 16 #[.agg #[.bool a.ref, .int .i64 a.n], .agg #[.bool b.ref, .int .i64 b.n]] w fun e w' => e = .returned (.bool (a.ref == b.ref && a.n == b.n)) ∧ Upd w w' [] := by
  obtain ⟨ar, an⟩ := a
  obtain ⟨br, bn⟩ := b
  by_cases h1 : ar = br
  · subst h1
    go_enter Try.func16, Try.ntmps16
    go_wp2
    go_ret
    exact ⟨by simp, ((Upd.refl _ _).alloc _).alloc _⟩
  · have h1' : (ar == br) = false := by simpa using h1
    go_enter Try.func16, Try.ntmps16
    go_wp2
    go_ret
    exact ⟨by simp [h1'], ((Upd.refl _ _).alloc _).alloc _⟩

def APost (P : Nat → Prop) (w : World) (S X : Nat) (e : Ending) (w' : World) : Prop := e = .returned (.bool true) ∧ (∃ s', Both P w' S X s' s') ∧ Fix P w w'
def opv (k a b : Int) (v : V2) : Value := .agg #[.int .i64 k, .int .i64 a, .int .i64 b, .bool v.ref, .int .i64 v.n]
theorem Both.lt {P : Nat → Prop} {w : World} {S X : Nat} {s t : List M} (h : Both P w S X s t) : ∀ b, P b → b < w.heap.size := by
  obtain ⟨vf, fs, vr, gs, hs, hr, ha, hb, hd, hp⟩ := h
  exact fun b hb => (hp b hb).1
theorem ImpP.lt {P : Nat → Prop} {w : World} {S : Nat} {s : List M} (h : ImpP P w S s) : ∀ b, P b → b < w.heap.size := by
  obtain ⟨vf, fs, hs, ha, hp⟩ := h
  exact fun b hb => (hp b hb).1
/-- Behind the box of the one asked for: what was, stays. -/
theorem Fix.behind {P : Nat → Prop} {w w' : World} {o : Obj} (hP : ∀ b, P b → b < w.heap.size) (h : Fix (fun b => P b ∨ b = w.heap.size) (w.alloc o) w') : Fix P w w' :=
  (Fix.of_upd ((Upd.refl w []).alloc o) fun b hb => ⟨hP b hb, by simp⟩).trans (h.mono fun b hb => .inl hb)
theorem Fix.drewN {P : Nat → Prop} {w w' : World} {n : Nat} (h : Fix P (w.drewN n) w') : Fix P w w' := ⟨h.os, h.tape, h.output, h.size, h.block⟩

section
variable (P : Nat → Prop) (a b : Int) (v : V2) (S X : Nat) (s : List M) (w : World)
set_option maxHeartbeats 1000000 in
set_option maxRecDepth 100000 in
theorem agr_1 (h : Both P w S X s s) :
    Calls Try.prog 18 #[opv 1 a b v, .pointer (some ⟨S, 0, none⟩), .pointer (some ⟨X, 0, none⟩)] w (APost P w S X) := by
  have hlt := hid h.lt
  have hB := hid (h.with_ ((Upd.refl w []).alloc (.cells #[.int .i64 1, .int .i64 a, .int .i64 b, .bool v.ref, .int .i64 v.n] 37)) (b0 := w.heap.size) (Nat.le_refl _) (by simp))
  have hb := hid (Blk.new w 37 #[.int .i64 1, .int .i64 a, .int .i64 b, .bool v.ref, .int .i64 v.n])
  clear h
  obtain ⟨r1, hr1⟩ : ∃ r : Int, r = (sEnter s a b).2 := ⟨_, rfl⟩
  have c1 := hid (fun (W : World) (hW : Both (fun x => P x ∨ x = w.heap.size) W S X s s) => hW.imp (s' := (sEnter s a b).1) (fun Q hQ => pEnter hQ a b))
  have c2 := hid (fun (W : World) (hW : Both (fun x => P x ∨ x = w.heap.size) W S X (sEnter s a b).1 s) => hW.ref (t' := (sEnter s a b).1) (fun Q hQ => qEnter hQ a b))
  rw [← hr1] at c1 c2
  clear hr1
  generalize (sEnter s a b).1 = s1 at c1 c2
  go_enter Try.func18, Try.ntmps18
  unfold opv
  go_wp2_with fail
  have hBd := hid (hB.out.grow ((Upd.refl _ _).drewN 1))
  go_region_held3 (fun W => W.cell? ⟨w.heap.size, 1, none⟩ = some (.int .i64 a) ∧ W.cell? ⟨w.heap.size, 2, none⟩ = some (.int .i64 b)) (first | exact ⟨x1, x2⟩ | go_keep) (first
    | (go_at_call 9; refine (c1.out _ hBd.out).mono ?_; rintro e w1 ⟨rfl, h1, F1⟩; have b1 := F1.blk (by exact hb.out) (Or.inr rfl); have x1 := b1.cell 1; have x2 := b1.cell 2; simp at x1 x2)
    | (go_at_call 28; refine (c2.out _ h1).mono ?_; rintro e w2 ⟨rfl, h2, F2⟩; have b2 := F2.blk b1 (Or.inr rfl); have x1 := b2.cell 1; have x2 := b2.cell 2; simp at x1 x2))
  go_wp2
  go_ret
  exact ⟨by simp, ⟨_, h2.mono fun b hb => .inl hb⟩, Fix.behind hlt.out ((F1.drewN (n := 1)).trans F2)⟩

set_option maxHeartbeats 1000000 in
set_option maxRecDepth 100000 in
theorem agr_2 (h : Both P w S X s s) :
    Calls Try.prog 18 #[opv 2 a b v, .pointer (some ⟨S, 0, none⟩), .pointer (some ⟨X, 0, none⟩)] w (APost P w S X) := by
  have hlt := hid h.lt
  have hB := hid (h.with_ ((Upd.refl w []).alloc (.cells #[.int .i64 2, .int .i64 a, .int .i64 b, .bool v.ref, .int .i64 v.n] 37)) (b0 := w.heap.size) (Nat.le_refl _) (by simp))
  have hb := hid (Blk.new w 37 #[.int .i64 2, .int .i64 a, .int .i64 b, .bool v.ref, .int .i64 v.n])
  clear h
  obtain ⟨r1, hr1⟩ : ∃ r : Int, r = (sLeave s).2 := ⟨_, rfl⟩
  have c1 := hid (fun (W : World) (hW : Both (fun x => P x ∨ x = w.heap.size) W S X s s) => hW.imp (s' := (sLeave s).1) (fun Q hQ => pLeave hQ))
  have c2 := hid (fun (W : World) (hW : Both (fun x => P x ∨ x = w.heap.size) W S X (sLeave s).1 s) => hW.ref (t' := (sLeave s).1) (fun Q hQ => qLeave hQ))
  rw [← hr1] at c1 c2
  clear hr1
  generalize (sLeave s).1 = s1 at c1 c2
  go_enter Try.func18, Try.ntmps18
  unfold opv
  go_wp2_with fail
  refine (c1.out _ hB.out).mono ?_
  rintro e w1 ⟨rfl, h1, F1⟩
  go_wp2_with fail
  refine (c2.out _ h1).mono ?_
  rintro e w2 ⟨rfl, h2, F2⟩
  go_wp2
  go_ret
  exact ⟨by simp, ⟨_, h2.mono fun b hb => .inl hb⟩, Fix.behind hlt.out (F1.trans F2)⟩

set_option maxHeartbeats 1000000 in
set_option maxRecDepth 100000 in
theorem agr_3 (h : Both P w S X s s) :
    Calls Try.prog 18 #[opv 3 a b v, .pointer (some ⟨S, 0, none⟩), .pointer (some ⟨X, 0, none⟩)] w (APost P w S X) := by
  have hlt := hid h.lt
  have hB := hid (h.with_ ((Upd.refl w []).alloc (.cells #[.int .i64 3, .int .i64 a, .int .i64 b, .bool v.ref, .int .i64 v.n] 37)) (b0 := w.heap.size) (Nat.le_refl _) (by simp))
  have hb := hid (Blk.new w 37 #[.int .i64 3, .int .i64 a, .int .i64 b, .bool v.ref, .int .i64 v.n])
  clear h
  obtain ⟨r1, hr1⟩ : ∃ r : Int, r = (sPut s v).2 := ⟨_, rfl⟩
  have c1 := hid (fun (W : World) (hW : Both (fun x => P x ∨ x = w.heap.size) W S X s s) => hW.imp (s' := (sPut s v).1) (fun Q hQ => pPut hQ v))
  have c2 := hid (fun (W : World) (hW : Both (fun x => P x ∨ x = w.heap.size) W S X (sPut s v).1 s) => hW.ref (t' := (sPut s v).1) (fun Q hQ => qPut hQ v))
  rw [← hr1] at c1 c2
  clear hr1
  generalize (sPut s v).1 = s1 at c1 c2
  go_enter Try.func18, Try.ntmps18
  unfold opv
  go_wp2_with fail
  have hBd := hid (hB.out.grow ((Upd.refl _ _).drewN 1))
  go_region_held3 (fun W => W.cell? ⟨w.heap.size, 3, none⟩ = some (.bool v.ref) ∧ W.cell? ⟨w.heap.size, 4, none⟩ = some (.int .i64 v.n)) (first | exact ⟨x3, x4⟩ | go_keep) (first
    | (go_at_call 13; refine (c1.out _ hBd.out).mono ?_; rintro e w1 ⟨rfl, h1, F1⟩; have b1 := F1.blk (by exact hb.out) (Or.inr rfl); have x3 := b1.cell 3; have x4 := b1.cell 4; simp at x3 x4)
    | (go_at_call 30; refine (c2.out _ h1).mono ?_; rintro e w2 ⟨rfl, h2, F2⟩; have b2 := F2.blk b1 (Or.inr rfl); have x3 := b2.cell 3; have x4 := b2.cell 4; simp at x3 x4))
  go_wp2
  go_ret
  exact ⟨by simp, ⟨_, h2.mono fun b hb => .inl hb⟩, Fix.behind hlt.out ((F1.drewN (n := 1)).trans F2)⟩

set_option maxHeartbeats 1000000 in
set_option maxRecDepth 100000 in
theorem agr_7 (h : Both P w S X s s) :
    Calls Try.prog 18 #[opv 7 a b v, .pointer (some ⟨S, 0, none⟩), .pointer (some ⟨X, 0, none⟩)] w (APost P w S X) := by
  have hlt := hid h.lt
  have hB := hid (h.with_ ((Upd.refl w []).alloc (.cells #[.int .i64 7, .int .i64 a, .int .i64 b, .bool v.ref, .int .i64 v.n] 37)) (b0 := w.heap.size) (Nat.le_refl _) (by simp))
  have hb := hid (Blk.new w 37 #[.int .i64 7, .int .i64 a, .int .i64 b, .bool v.ref, .int .i64 v.n])
  clear h
  obtain ⟨r1, hr1⟩ : ∃ r : Int, r = (sSet s a v).2 := ⟨_, rfl⟩
  have c1 := hid (fun (W : World) (hW : Both (fun x => P x ∨ x = w.heap.size) W S X s s) => hW.imp (s' := (sSet s a v).1) (fun Q hQ => pSet hQ a v))
  have c2 := hid (fun (W : World) (hW : Both (fun x => P x ∨ x = w.heap.size) W S X (sSet s a v).1 s) => hW.ref (t' := (sSet s a v).1) (fun Q hQ => qSet hQ a v))
  rw [← hr1] at c1 c2
  clear hr1
  generalize (sSet s a v).1 = s1 at c1 c2
  go_enter Try.func18, Try.ntmps18
  unfold opv
  go_wp2_with fail
  have hBd := hid (hB.out.grow ((Upd.refl _ _).drewN 1))
  go_region_held3 (fun W => W.cell? ⟨w.heap.size, 1, none⟩ = some (.int .i64 a) ∧ W.cell? ⟨w.heap.size, 3, none⟩ = some (.bool v.ref) ∧ W.cell? ⟨w.heap.size, 4, none⟩ = some (.int .i64 v.n)) (first | exact ⟨x1, x3, x4⟩ | go_keep) (first
    | (go_at_call 14; refine (c1.out _ hBd.out).mono ?_; rintro e w1 ⟨rfl, h1, F1⟩; have b1 := F1.blk (by exact hb.out) (Or.inr rfl); have x1 := b1.cell 1; have x3 := b1.cell 3; have x4 := b1.cell 4; simp at x1 x3 x4)
    | (go_at_call 34; refine (c2.out _ h1).mono ?_; rintro e w2 ⟨rfl, h2, F2⟩; have b2 := F2.blk b1 (Or.inr rfl); have x1 := b2.cell 1; have x3 := b2.cell 3; have x4 := b2.cell 4; simp at x1 x3 x4))
  go_wp2
  go_ret
  exact ⟨by simp, ⟨_, h2.mono fun b hb => .inl hb⟩, Fix.behind hlt.out ((F1.drewN (n := 1)).trans F2)⟩

set_option maxHeartbeats 1000000 in
set_option maxRecDepth 100000 in
theorem agr_4 (h : Both P w S X s s) :
    Calls Try.prog 18 #[opv 4 a b v, .pointer (some ⟨S, 0, none⟩), .pointer (some ⟨X, 0, none⟩)] w (APost P w S X) := by
  have hlt := hid h.lt
  have hB := hid (h.with_ ((Upd.refl w []).alloc (.cells #[.int .i64 4, .int .i64 a, .int .i64 b, .bool v.ref, .int .i64 v.n] 37)) (b0 := w.heap.size) (Nat.le_refl _) (by simp))
  have hb := hid (Blk.new w 37 #[.int .i64 4, .int .i64 a, .int .i64 b, .bool v.ref, .int .i64 v.n])
  clear h
  obtain ⟨r1, hr1⟩ : ∃ r : Int, r = (sTake s).2.2 := ⟨_, rfl⟩
  obtain ⟨v1, hv1⟩ : ∃ r : V2, r = (sTake s).2.1 := ⟨_, rfl⟩
  have c1 := hid (fun (W : World) (hW : Both (fun x => P x ∨ x = w.heap.size) W S X s s) => hW.imp (s' := (sTake s).1) (fun Q hQ => pTake hQ))
  have c2 := hid (fun (Q' : Nat → Prop) (W : World) (hW : Both Q' W S X (sTake s).1 s) => hW.ref (t' := (sTake s).1) (fun Q hQ => qTake hQ))
  rw [← hr1, ← hv1] at c1 c2
  clear hr1 hv1
  generalize (sTake s).1 = s1 at c1 c2
  unfold V2.val at c1 c2
  go_enter Try.func18, Try.ntmps18
  unfold opv
  go_wp2_with fail
  refine (c1.out _ hB.out).mono ?_
  rintro e w1 ⟨rfl, h1, F1⟩
  have h1' := hid (h1.with_ ((Upd.refl w1 []).alloc (.cells #[.bool v1.ref, .int .i64 v1.n] 34)) (b0 := w1.heap.size) (Nat.le_refl _) (by simp))
  have bb := hid (Blk.new w1 34 #[.bool v1.ref, .int .i64 v1.n])
  have hlt1 := hid h1.lt
  clear h1
  go_wp2_with fail
  refine (c2.out _ _ h1'.out).mono ?_
  rintro e w2 ⟨rfl, h2, F2⟩
  have b2 := F2.blk (by exact bb.out) (Or.inr rfl)
  have y0 := b2.cell 0
  have y1 := b2.cell 1
  simp at y0 y1
  have hl2 := b2.lt
  go_wp2_with fail
  refine (same_any v1 v1 _).mono ?_
  rintro e w3 ⟨rfl, U3⟩
  go_wp2
  go_ret
  have FF := F1.trans (((Fix.of_upd ((Upd.refl w1 []).alloc _) fun b hb => ⟨hlt1.out b hb, by simp⟩)).trans (F2.mono fun b hb => .inl hb))
  exact ⟨by simp, ⟨_, (h2.grow (((Upd.refl w2 []).alloc _).trans U3)).mono fun b hb => .inl (.inl hb)⟩, Fix.behind hlt.out (FF.trans (Fix.of_upd (((Upd.refl w2 []).alloc _).trans U3) fun b hb => ⟨h2.lt b (.inl hb), by simp⟩))⟩

set_option maxHeartbeats 1000000 in
set_option maxRecDepth 100000 in
theorem agr_5 (h : Both P w S X s s) :
    Calls Try.prog 18 #[opv 5 a b v, .pointer (some ⟨S, 0, none⟩), .pointer (some ⟨X, 0, none⟩)] w (APost P w S X) := by
  have hlt := hid h.lt
  have hB := hid (h.with_ ((Upd.refl w []).alloc (.cells #[.int .i64 5, .int .i64 a, .int .i64 b, .bool v.ref, .int .i64 v.n] 37)) (b0 := w.heap.size) (Nat.le_refl _) (by simp))
  have hb := hid (Blk.new w 37 #[.int .i64 5, .int .i64 a, .int .i64 b, .bool v.ref, .int .i64 v.n])
  clear h
  obtain ⟨r1, hr1⟩ : ∃ r : Int, r = (sPeek s a).2 := ⟨_, rfl⟩
  obtain ⟨v1, hv1⟩ : ∃ r : V2, r = (sPeek s a).1 := ⟨_, rfl⟩
  have c1 := hid (fun (W : World) (hW : Both (fun x => P x ∨ x = w.heap.size) W S X s s) => hW.imp (s' := s) (fun Q hQ => pPeek hQ a))
  have c2 := hid (fun (Q' : Nat → Prop) (W : World) (hW : Both Q' W S X s s) => hW.ref (t' := s) (fun Q hQ => qPeek hQ a))
  rw [← hr1, ← hv1] at c1 c2
  clear hr1 hv1
  unfold V2.val at c1 c2
  go_enter Try.func18, Try.ntmps18
  unfold opv
  go_wp2_with fail
  refine (c1.out _ hB.out).mono ?_
  rintro e w1 ⟨rfl, h1, F1⟩
  have b1 := F1.blk (by exact hb.out) (Or.inr rfl)
  have x1 := b1.cell 1
  simp at x1
  have hl1 := b1.lt
  have h1' := hid (h1.with_ ((Upd.refl w1 []).alloc (.cells #[.bool v1.ref, .int .i64 v1.n] 34)) (b0 := w1.heap.size) (Nat.le_refl _) (by simp))
  have bb := hid (Blk.new w1 34 #[.bool v1.ref, .int .i64 v1.n])
  have hlt1 := hid h1.lt
  clear h1
  go_wp2_with fail
  refine (c2.out _ _ h1'.out).mono ?_
  rintro e w2 ⟨rfl, h2, F2⟩
  have b2 := F2.blk (by exact bb.out) (Or.inr rfl)
  have y0 := b2.cell 0
  have y1 := b2.cell 1
  simp at y0 y1
  have hl2 := b2.lt
  go_wp2_with fail
  refine (same_any v1 v1 _).mono ?_
  rintro e w3 ⟨rfl, U3⟩
  go_wp2
  go_ret
  have FF := F1.trans (((Fix.of_upd ((Upd.refl w1 []).alloc _) fun b hb => ⟨hlt1.out b hb, by simp⟩)).trans (F2.mono fun b hb => .inl hb))
  exact ⟨by simp, ⟨_, (h2.grow (((Upd.refl w2 []).alloc _).trans U3)).mono fun b hb => .inl (.inl hb)⟩, Fix.behind hlt.out (FF.trans (Fix.of_upd (((Upd.refl w2 []).alloc _).trans U3) fun b hb => ⟨h2.lt b (.inl hb), by simp⟩))⟩

set_option maxHeartbeats 1000000 in
set_option maxRecDepth 100000 in
theorem agr_6 (h : Both P w S X s s) :
    Calls Try.prog 18 #[opv 6 a b v, .pointer (some ⟨S, 0, none⟩), .pointer (some ⟨X, 0, none⟩)] w (APost P w S X) := by
  have hlt := hid h.lt
  have hB := hid (h.with_ ((Upd.refl w []).alloc (.cells #[.int .i64 6, .int .i64 a, .int .i64 b, .bool v.ref, .int .i64 v.n] 37)) (b0 := w.heap.size) (Nat.le_refl _) (by simp))
  have hb := hid (Blk.new w 37 #[.int .i64 6, .int .i64 a, .int .i64 b, .bool v.ref, .int .i64 v.n])
  clear h
  obtain ⟨r1, hr1⟩ : ∃ r : Int, r = (sLocal s a).2 := ⟨_, rfl⟩
  obtain ⟨v1, hv1⟩ : ∃ r : V2, r = (sLocal s a).1 := ⟨_, rfl⟩
  have c1 := hid (fun (W : World) (hW : Both (fun x => P x ∨ x = w.heap.size) W S X s s) => hW.imp (s' := s) (fun Q hQ => pLocal hQ a))
  have c2 := hid (fun (Q' : Nat → Prop) (W : World) (hW : Both Q' W S X s s) => hW.ref (t' := s) (fun Q hQ => qLocal hQ a))
  rw [← hr1, ← hv1] at c1 c2
  clear hr1 hv1
  unfold V2.val at c1 c2
  go_enter Try.func18, Try.ntmps18
  unfold opv
  go_wp2_with fail
  refine (c1.out _ hB.out).mono ?_
  rintro e w1 ⟨rfl, h1, F1⟩
  have b1 := F1.blk (by exact hb.out) (Or.inr rfl)
  have x1 := b1.cell 1
  simp at x1
  have hl1 := b1.lt
  have h1' := hid (h1.with_ ((Upd.refl w1 []).alloc (.cells #[.bool v1.ref, .int .i64 v1.n] 34)) (b0 := w1.heap.size) (Nat.le_refl _) (by simp))
  have bb := hid (Blk.new w1 34 #[.bool v1.ref, .int .i64 v1.n])
  have hlt1 := hid h1.lt
  clear h1
  go_wp2_with fail
  refine (c2.out _ _ h1'.out).mono ?_
  rintro e w2 ⟨rfl, h2, F2⟩
  have b2 := F2.blk (by exact bb.out) (Or.inr rfl)
  have y0 := b2.cell 0
  have y1 := b2.cell 1
  simp at y0 y1
  have hl2 := b2.lt
  go_wp2_with fail
  refine (same_any v1 v1 _).mono ?_
  rintro e w3 ⟨rfl, U3⟩
  go_wp2
  go_ret
  have FF := F1.trans (((Fix.of_upd ((Upd.refl w1 []).alloc _) fun b hb => ⟨hlt1.out b hb, by simp⟩)).trans (F2.mono fun b hb => .inl hb))
  exact ⟨by simp, ⟨_, (h2.grow (((Upd.refl w2 []).alloc _).trans U3)).mono fun b hb => .inl (.inl hb)⟩, Fix.behind hlt.out (FF.trans (Fix.of_upd (((Upd.refl w2 []).alloc _).trans U3) fun b hb => ⟨h2.lt b (.inl hb), by simp⟩))⟩


set_option maxHeartbeats 1000000 in
theorem agr_none (k : Int) (hk : k ≠ 1 ∧ k ≠ 2 ∧ k ≠ 3 ∧ k ≠ 4 ∧ k ≠ 5 ∧ k ≠ 6 ∧ k ≠ 7) (h : Both P w S X s s) :
    Calls Try.prog 18 #[opv k a b v, .pointer (some ⟨S, 0, none⟩), .pointer (some ⟨X, 0, none⟩)] w (APost P w S X) := by
  have hlt := hid h.lt
  have h' := hid h
  clear h
  obtain ⟨k1, k2, k3, k4, k5, k6, k7⟩ := hk
  have e1 : (k == 1) = false := by simpa using k1
  have e2 : (k == 2) = false := by simpa using k2
  have e3 : (k == 3) = false := by simpa using k3
  have e4 : (k == 4) = false := by simpa using k4
  have e5 : (k == 5) = false := by simpa using k5
  have e6 : (k == 6) = false := by simpa using k6
  have e7 : (k == 7) = false := by simpa using k7
  clear k1 k2 k3 k4 k5 k6 k7
  go_enter Try.func18, Try.ntmps18
  unfold opv
  go_wp2
  go_ret
  exact ⟨rfl, ⟨s, h'.out.grow ((Upd.refl w []).alloc _)⟩, Fix.of_upd ((Upd.refl w []).alloc _) fun b hb => ⟨hlt.out b hb, by simp⟩⟩
theorem agrees_any (k : Int) (h : Both P w S X s s) :
    Calls Try.prog 18 #[opv k a b v, .pointer (some ⟨S, 0, none⟩), .pointer (some ⟨X, 0, none⟩)] w (APost P w S X) := by
  by_cases h1 : k = 1
  · subst h1; exact agr_1 P a b v S X s w h
  by_cases h2 : k = 2
  · subst h2; exact agr_2 P a b v S X s w h
  by_cases h3 : k = 3
  · subst h3; exact agr_3 P a b v S X s w h
  by_cases h4 : k = 4
  · subst h4; exact agr_4 P a b v S X s w h
  by_cases h5 : k = 5
  · subst h5; exact agr_5 P a b v S X s w h
  by_cases h6 : k = 6
  · subst h6; exact agr_6 P a b v S X s w h
  by_cases h7 : k = 7
  · subst h7; exact agr_7 P a b v S X s w h
  exact agr_none P a b v S X s w k ⟨h1, h2, h3, h4, h5, h6, h7⟩ h
end
end Go.Proofs.Ytgdjhbnnkadjeaa
