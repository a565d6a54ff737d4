/-
  A range over an iterator that keeps its own place in a cell: the law of the statement; strings.SplitSeq at a blank.
-/
import Derived.LoopIn
import Derived.LoopNIn
import Derived.OwnWalkIn
import Derived.RangeFuncBound
import Derived.RangeFuncCalls
import Derived.RangeFuncKeeps
import Derived.RangeFuncLeaves
import Derived.RegionIn
import Derived.TacticsInMore
import Derived.WalkKit
import Derived.Test.YtfpdeiefkimaaaaGreatDoorKA
import Derived.Test.YtfpdeiefkimaaaaGreatDoorKF
import Derived.Test.YtfpdeiefkimaaaaGreatDoorKH
import Derived.Test.YtfpdeiefkimaaaaGreatDoorKI
set_option linter.unusedSimpArgs false
set_option linter.unusedVariables false
namespace Go.Proofs.YtfpdeiefkimaaaaGreatDoor
open Go.RowKit

/-- The body of a round goes on behind its end. -/
def onlyNormal (R : World → Prop) : Exit → Act → World → Prop
  | .normal, _, W' => R W'
  | _, _, _ => False

/-- An iterator that keeps its place in the cell Bs and hands on xs, whatever J the rounds keep. -/
def SeqCell {α : Type} (F : Fence) (n : Nat) (P : Program) (gf : Nat) (lb : Array Value) (enc : α → Value) (Bs : Nat) (It : World → Prop) (v0 : Value) (xs : List α) : Prop :=
  ∀ (l : Nat) (J : List α → World → Prop) (W : World), (∀ s A v, J s A → J s (A.setCell ⟨Bs, 0, none⟩ v)) → (∀ s A, J s A → It A) →
    (∀ pre x W1, J pre W1 → YieldAt F (n - 1) P l #[enc x] W1 fun e W' => e = .returned (.bool true) ∧ J (pre ++ [x]) W' ∧ W'.cell? ⟨Bs, 0, none⟩ = W1.cell? ⟨Bs, 0, none⟩) →
    J [] W → W.cell? ⟨Bs, 0, none⟩ = some v0 → CallsIn F n P gf (#[.func (.yield l) #[] #[]] ++ lb) W fun e W' => (∃ v, e = .returned v) ∧ J xs W'

theorem wpIn_rangeFunc_cell {α : Type} {F : Fence} {n : Nat} {P : Program} {g : Operand} {ps : Array Tmp} {assign body : Code} {Q : Exit → Act → World → Prop} {a : Act} {w : World}
    (hro : F.round = none) (h1 : 1 ≤ n) {gf : Nat} {lb : Array Value} (hg : a.eval g = .func (.func gf) #[] lb) (hFg : F.fn gf) (eg : ∀ args w, (callFunc gf args).run P w = .ok (.enter gf args) w)
    {enc : α → Value} {Bs : Nat} {It : World → Prop} {v0 : Value} {xs : List α} (hseq : SeqCell F (n - 1) P gf lb enc Bs It v0 xs) (hps : ps.size = 1) (hBs : Bs < w.heap.size) (hc0 : w.cell? ⟨Bs, 0, none⟩ = some v0)
    (I : List α → World → Prop) (hIa : ∀ s A o, I s A → I s (A.alloc o)) (hIp : ∀ s A k o o', I s A → w.heap.size ≤ k → A.heap[k]? = some o → Obj.isCells o = false → I s (A.putObj k o'))
    (hIs : ∀ s A v, I s A → I s (A.setCell ⟨Bs, 0, none⟩ v)) (hIt : ∀ s A, I s A → It A) (h0 : I [] w) (a₁ : α → Act)
    (hassign : ∀ (l : Nat) (x : α) (W : World) (K : Act → World → Prop), K (a₁ x) W →
      assign.wpIn (F.inRound l) (n - 1 - 1) P (Exit.then K (fun _ _ _ => False)) { tmps := (ps.zip #[enc x]).foldl (fun t (p, v) => t.setIfInBounds p v) a.tmps, defers := [] } W)
    (hbody : ∀ (l : Nat) (pre : List α) (x : α) (W : World), I pre W → Bs < W.heap.size → body.wpIn (F.inRound l) (n - 1 - 1) P (onlyNormal fun W' => KeepsOthers W W' ∧ I (pre ++ [x]) W' ∧ W'.cell? ⟨Bs, 0, none⟩ = W.cell? ⟨Bs, 0, none⟩) (a₁ x) W)
    (hdone : ∀ (D : Nat) (W : World), w.heap.size ≤ D → I xs W → W.heap[D]? = some (.deferred (some [])) → Q .normal { a with defers := { target := .collected D, args := #[] } :: a.defers } W) :
    (Code.rangeFunc g ps assign body).wpIn F n P Q a w := by
  refine wpIn_rangeFunc ?_
  intro fn hfn
  rw [hro]
  obtain ⟨rec, hrec⟩ : ∃ rec : LoopState → Option Code → Loop, rec = fun st pe => { state := st, pending := pe, fn, tmps := a.tmps, params := ps, assign, body, defers := w.heap.size } := ⟨_, rfl⟩
  obtain ⟨W1, hW1⟩ : ∃ W1, (w.alloc (.deferred (some []))).alloc (.loop (rec .ready none)) = W1 := ⟨_, rfl⟩
  have hL1 : W1.heap[w.heap.size + 1]? = some (.loop (rec .ready none)) := by
    rw [← hW1]; have := World.alloc_heap_new (w.alloc (.deferred (some []))) (.loop (rec .ready none)); rwa [World.size_alloc] at this
  have hK1 : W1.heap[w.heap.size]? = some (.deferred (some [])) := by
    rw [← hW1]; exact (Below.heap_alloc _ _ _ (by simp)).trans (World.alloc_heap_new w _)
  have hI1 : I [] W1 := by rw [← hW1]; exact hIa _ _ _ (hIa _ _ _ h0)
  have hc1 : W1.cell? ⟨Bs, 0, none⟩ = some v0 := by
    rw [← hW1]
    exact (World.cell?_of_block (Below.heap_alloc _ _ Bs (by simp; omega))).trans ((World.cell?_of_block (Below.heap_alloc _ _ Bs hBs)).trans hc0)
  refine ⟨w.heap.size + 1, [{ target := .collected w.heap.size, args := #[] }], W1, { target := .fn (.func gf) lb, args := #[.func (.yield (w.heap.size + 1)) #[] #[]] }, W1, gf,
    #[.func (.yield (w.heap.size + 1)) #[] #[]] ++ lb, W1, ?_, ?_, ?_, ?_, fun _ => h1, ?_⟩
  · rw [← hW1, hrec]; exact run_enterLoop_outer _ _ _ _ _
  · simp only [resolve, hg]
    simp [go_sem]
  · intro f' hf'; simp [Target.leads] at hf'; subst hf'; exact hFg
  · simp [invoke, go_sem, eg]
  · refine (hseq (w.heap.size + 1) (fun pre W => I pre W ∧ W.heap[w.heap.size + 1]? = some (.loop (rec .ready none)) ∧ W.heap[w.heap.size]? = some (.deferred (some []))) W1 ?_ ?_ ?_ ⟨hI1, hL1, hK1⟩ hc1).mono ?_
    · rintro s A v ⟨hi, hl, hk⟩
      exact ⟨hIs _ _ _ hi, (Below.heap_setCell A ⟨Bs, 0, none⟩ v _ (by show w.heap.size + 1 ≠ Bs; omega)).trans hl, (Below.heap_setCell A ⟨Bs, 0, none⟩ v _ (by show w.heap.size ≠ Bs; omega)).trans hk⟩
    · rintro s A ⟨hi, -, -⟩
      exact hIt _ _ hi
    · rintro pre x W ⟨hi, hl, hk⟩
      have hlt : w.heap.size + 1 < W.heap.size := (Array.getElem?_eq_some_iff.1 hl).1
      have hy := run_yield (P := P) (args := #[enc x]) hl (by rw [hrec]; exact hps.symm)
      rw [hrec] at hy
      refine ⟨fn, _, assign, body, hy, roundIn_of_wpIn hfn (hassign _ x W _ ⟨_, run_beginRound hl (by rw [hrec]), ?_⟩)⟩
      have hl2 : (W.putObj (w.heap.size + 1) (.loop { rec .ready none with state := .busy })).heap[w.heap.size + 1]? = some (.loop { rec .ready none with state := .busy }) := World.putObj_heap_same hlt
      have hk2 : (W.putObj (w.heap.size + 1) (.loop { rec .ready none with state := .busy })).heap[w.heap.size]? = some (.deferred (some [])) := (World.putObj_heap_other (by omega)).trans hk
      have hcB : (W.putObj (w.heap.size + 1) (.loop { rec .ready none with state := .busy })).cell? ⟨Bs, 0, none⟩ = W.cell? ⟨Bs, 0, none⟩ := World.cell?_of_block (World.putObj_heap_other (k := Bs) (by omega))
      refine wpIn_mono (hbody _ pre x _ (hIp _ _ _ _ _ hi (by omega) hl rfl) (by simp; omega)) ?_
      rintro e a3 W3 hp
      cases e with
      | normal =>
        obtain ⟨hk3, hi3, hc3⟩ := hp
        have hl3 := hk3.same _ _ hl2 rfl
        have hr := run_endRound (P := P) none hl3
        rw [hrec] at hr
        rw [hrec] at hl3
        refine ⟨_, _, hr, rfl, ⟨hIp _ _ _ _ _ hi3 (by omega) hl3 rfl, ?_, (World.putObj_heap_other (by omega)).trans (hk3.same _ _ hk2 rfl)⟩, ?_⟩
        · rw [hrec]
          exact World.putObj_heap_same (Array.getElem?_eq_some_iff.1 hl3).1
        · exact (World.cell?_of_block (World.putObj_heap_other (k := Bs) (by omega))).trans (hc3.trans hcB)
      | ret => exact hp.elim
      | exit id => exact hp.elim
      | goto t => exact hp.elim
      | panic ch => exact hp.elim
      | outgrown => exact hp.elim
    · rintro e W2 ⟨⟨v, rfl⟩, hi, hl, hk⟩
      exact ⟨none, _, by have := run_endLoop (P := P) hl (by rw [hrec]; simp); rw [hrec] at this; exact this, hdone _ _ (Nat.le_refl _) (hIp _ _ _ _ _ hi (by omega) hl rfl) ((World.putObj_heap_other (by omega)).trans hk)⟩

def restOf (Bs : Nat) (w : World) : Nat := match w.cell? ⟨Bs, 0, none⟩ with
  | some (.string s) => s.size
  | _ => 0
theorem restOf_at {Bs : Nat} {w : World} {l : List UInt8} (h : w.cell? ⟨Bs, 0, none⟩ = some (.string (bs l))) : restOf Bs w = l.length := by
  unfold restOf
  rw [h]
  exact bs_size l
theorem indexByte_none (c : UInt8) : ∀ (a : List UInt8), c ∉ a → Lib.indexByte a c = -1
  | [], _ => by simp [Lib.indexByte]
  | x :: t, h => by
    simp only [List.mem_cons, not_or] at h
    have ih := indexByte_none c t h.2
    unfold Lib.indexByte
    rw [if_neg (by simpa using fun e => h.1 e.symm), ih]
    simp

set_option maxHeartbeats 4000000 in
set_option maxRecDepth 100000 in
theorem split_iter (n : Nat) (hn : 1 ≤ n) (Bp Bs Bv : Nat) (l : List UInt8) (hl : l.length ≤ 4000000000) :
    SeqCell Fence.wide n Tryz.prog 110 #[.pointer (some ⟨Bp, 0, none⟩), .pointer (some ⟨Bs, 0, none⟩), .pointer (some ⟨Bv, 0, none⟩)] (fun x : List UInt8 => .string (bs x)) Bs
      (fun W => W.cell? ⟨Bp, 0, none⟩ = some (.string ⟨#[32]⟩) ∧ W.cell? ⟨Bv, 0, none⟩ = some (.int .i64 0) ∧ W.frozen? ⟨Bs, 0, none⟩ = false) (.string (bs l)) (splitL 32 l) := by
  intro lp J W hJs hJt hY h0 hc0
  refine callsIn_of_wp Tryz.func110 rfl trivial ?_ rfl
  simp only [Tryz.ntmps110, List.size_toArray, List.length_cons, List.length_nil, Nat.reduceAdd, Nat.reduceSub, Array.replicate_succ, Array.replicate_zero, List.push_toArray, List.append_toArray, List.nil_append, List.cons_append]
  obtain ⟨hp, hv, hf⟩ := hJt _ _ h0
  have h32 : (⟨#[32]⟩ : ByteArray).size = 1 := rfl
  gi_wp2
  gi_loopw [7, 8] (fun _ _ wr => ∃ pre rest, J pre wr ∧ wr.cell? ⟨Bs, 0, none⟩ = some (.string (bs rest)) ∧ splitL 32 l = pre ++ splitL 32 rest ∧ rest.length ≤ l.length) (fun _ _ wr => restOf Bs wr)
  case atStart => exact ⟨[], l, h0, hc0, by simp, Nat.le_refl _⟩
  case round =>
    obtain ⟨pre, rest, hJ, hc, hsp, hle⟩ := hrel
    obtain ⟨hp, hv, hf⟩ := hJt _ _ hJ
    by_cases h32m : (32 : UInt8) ∈ rest
    · obtain ⟨a, b, rfl, ha⟩ := List.eq_append_cons_of_mem h32m
      have Hix := fun w => hid (Tryz.strings_Index_one (bs (a ++ 32 :: b)) 32 w)
      simp only [bs_data, indexByte_at 32 a b ha] at Hix
      have hal : a.length + 1 + b.length ≤ 4000000000 := by simp at hle; omega
      have hsz : (bs (a ++ 32 :: b)).size = a.length + 1 + b.length := by rw [bs_size]; simp; omega
      have e1 : (bs (a ++ 32 :: b)).extract 0 a.length = bs a := by rw [bs_extract]; simp
      have e2 : (bs (a ++ 32 :: b)).extract (a.length + 1) (a.length + 1 + b.length) = bs b := by rw [bs_extract]; simp
      have hsp2 : splitL 32 l = pre ++ [a] ++ splitL 32 b := by rw [hsp, splitL_cut 32 a b ha, List.append_assoc]; rfl
      have hw0 : wrap64 ((a.length : Int) + 0) = a.length := by unfold wrap64; omega
      have hw00 : wrap64 (a.length : Int) = a.length := by unfold wrap64; omega
      have hw1 : wrap64 ((a.length : Int) + 1) = a.length + 1 := by unfold wrap64; omega
      obtain ⟨fn, tmps, assign, body, hy, hR⟩ := hY pre a wr hJ
      have Hrest := hid (restOf_at hc)
      generalize bs (a ++ 32 :: b) = sv at *
      clear hsp
      gi_wp2_with (refine ⟨trivial, ?_⟩; gi_at_call 112; refine (CallsIn.mono (callsIn_wide.2 (Hix _).out) ?_); rintro e w' ⟨rfl, rfl⟩)
      refine hR.mono ?_
      rintro e W3 ⟨rfl, hJ3, hc3⟩
      obtain ⟨hp3, hv3, hf3⟩ := hJt _ _ hJ3
      have hc4 := hc3.trans hc
      have Hc4 := hid hc4
      clear hc3 hc hp hv hf hR hy
      gi_wp2
      go_roundw
      case rel => exact ⟨pre ++ [a], b, hJs _ _ _ hJ3, World.cell?_setCell_same' _ _ _ (by rw [Hc4.out]; rfl), hsp2, by simp at hle; omega⟩
      case measure =>
        rw [Hrest.out, restOf_at (l := b) (World.cell?_setCell_same' _ _ _ (by rw [Hc4.out]; rfl))]
        simp
        omega
    · have Hix := fun w => hid (Tryz.strings_Index_one (bs rest) 32 w)
      simp only [bs_data, indexByte_none 32 rest h32m] at Hix
      have hfin : splitL 32 l = pre ++ [rest] := by rw [hsp, splitL_none 32 rest h32m]
      obtain ⟨fn, tmps, assign, body, hy, hR⟩ := hY pre rest wr hJ
      clear hsp
      gi_wp2_with (refine ⟨trivial, ?_⟩; gi_at_call 112; refine (CallsIn.mono (callsIn_wide.2 (Hix _).out) ?_); rintro e w' ⟨rfl, rfl⟩)
      refine hR.mono ?_
      rintro e W3 ⟨rfl, hJ3, hc3⟩
      clear hR hy
      gi_wp2
      go_end0
      rw [hfin]
      exact ⟨⟨_, rfl⟩, hJ3⟩
end Go.Proofs.YtfpdeiefkimaaaaGreatDoor
/-
  Package flags' parse, walked: a range over the words of a text.
-/
set_option linter.unusedSimpArgs false
set_option linter.unusedVariables false
namespace Go.Proofs.YtfpdeiefkimaaaaGreatDoor
open Go.RowKit
attribute [local go_sem] Oper.semAt_some

theorem foldF_snoc (m : Int) (x : List UInt8) : ∀ (ps : List (List UInt8)) (f : Int), foldF m f (ps ++ [x]) = orF m (foldF m f ps) x 8
  | [], f => rfl
  | p :: ps, f => foldF_snoc m x ps _

set_option maxHeartbeats 1000000 in
theorem splitSeq_any (l : List UInt8) (w : World) : Calls Tryz.prog 222 #[.string (bs l), .string ⟨#[32]⟩] w fun e w' =>
    e = .returned (.func (.func 110) #[] #[.pointer (some ⟨w.heap.size + 1, 0, none⟩), .pointer (some ⟨w.heap.size, 0, none⟩), .pointer (some ⟨w.heap.size + 2, 0, none⟩)]) ∧ w' = ((w.alloc (.cells #[.string (bs l)] 9)).alloc (.cells #[.string ⟨#[32]⟩] 9)).alloc (.cells #[.int .i64 0] 3) := by
  have h1 : Calls Tryz.prog 58 #[.string (bs l), .string ⟨#[32]⟩, .int .i64 0] w fun e w' =>
      e = .returned (.func (.func 110) #[] #[.pointer (some ⟨w.heap.size + 1, 0, none⟩), .pointer (some ⟨w.heap.size, 0, none⟩), .pointer (some ⟨w.heap.size + 2, 0, none⟩)]) ∧ w' = ((w.alloc (.cells #[.string (bs l)] 9)).alloc (.cells #[.string ⟨#[32]⟩] 9)).alloc (.cells #[.int .i64 0] 3) := by
    go_enter Tryz.func58, Tryz.ntmps58
    go_wp2
    go_ret
    exact ⟨rfl, rfl⟩
  have H1 := hid h1
  clear h1
  go_enter Tryz.func222, Tryz.ntmps222
  go_wp2_with fail
  refine H1.out.mono ?_
  rintro e w' ⟨rfl, rfl⟩
  go_wp2
  go_ret
  exact ⟨rfl, rfl⟩

/-- Between two rounds: the flags of the words that have come. -/
structure partRel (m : Int) (w : World) (fv : Int) (W : World) : Prop where
  c : W.cell? ⟨w.heap.size + 1, 0, none⟩ = some (.int .i64 fv)
  fr : W.frozen? ⟨w.heap.size + 1, 0, none⟩ = false
  a : W.cell? ⟨w.heap.size, 0, none⟩ = some (.int .i64 m)
  p : W.cell? ⟨w.heap.size + 3, 0, none⟩ = some (.string ⟨#[32]⟩)
  v : W.cell? ⟨w.heap.size + 4, 0, none⟩ = some (.int .i64 0)
  f : W.frozen? ⟨w.heap.size + 2, 0, none⟩ = false
  u : Upd w W []
  z : w.heap.size + 5 ≤ W.heap.size
theorem partRel.moved {m : Int} {w : World} {fv : Int} {W W' : World} (h : partRel m w fv W) (hb : ∀ k, k < W.heap.size → k ≠ w.heap.size + 2 → w.heap.size ≤ k → k < w.heap.size + 5 → W'.heap[k]? = W.heap[k]?) (hf : W'.frozen? ⟨w.heap.size + 2, 0, none⟩ = false) (hu : Upd w W' []) (hz : W.heap.size ≤ W'.heap.size) : partRel m w fv W' := by
  have z := h.z
  exact ⟨(World.cell?_of_block (hb (w.heap.size + 1) (by omega) (by omega) (by omega) (by omega))).trans h.c, (World.frozen?_of_block (hb (w.heap.size + 1) (by omega) (by omega) (by omega) (by omega))).trans h.fr,
    (World.cell?_of_block (hb w.heap.size (by omega) (by omega) (by omega) (by omega))).trans h.a, (World.cell?_of_block (hb (w.heap.size + 3) (by omega) (by omega) (by omega) (by omega))).trans h.p,
    (World.cell?_of_block (hb (w.heap.size + 4) (by omega) (by omega) (by omega) (by omega))).trans h.v, hf, hu, by omega⟩
theorem partRel.alloc {m : Int} {w : World} {fv : Int} {W : World} (h : partRel m w fv W) (o : Obj) : partRel m w fv (W.alloc o) := by
  have z := h.z
  exact h.moved (fun k hk _ _ _ => Below.heap_alloc W o k hk) ((World.frozen?_of_block (Below.heap_alloc W o (w.heap.size + 2) (by omega))).trans h.f) (h.u.alloc o) (by simp)
theorem partRel.putObj {m : Int} {w : World} {fv : Int} {W : World} (h : partRel m w fv W) {k : Nat} {o : Obj} (hk : w.heap.size + 5 ≤ k) (ho : W.heap[k]? = some o) (_ : Obj.isCells o = false) (o' : Obj) : partRel m w fv (W.putObj k o') := by
  have hlt := (Array.getElem?_eq_some_iff.1 ho).1
  exact h.moved (fun j hj _ _ h5 => World.putObj_heap_other (by omega)) ((World.frozen?_of_block (World.putObj_heap_other (k := w.heap.size + 2) (by omega))).trans h.f) (h.u.grown (grownBy_putObj' W k o') (fun j e => by cases e; right; omega)) (by simp)
theorem partRel.setS {m : Int} {w : World} {fv : Int} {W : World} (h : partRel m w fv W) (v : Value) : partRel m w fv (W.setCell ⟨w.heap.size + 2, 0, none⟩ v) := by
  exact h.moved (fun j _ hj _ _ => Below.heap_setCell W _ v j hj) (by rw [World.frozen?_setCell]; exact h.f) (h.u.setCell (.inr (by show w.heap.size ≤ w.heap.size + 2; omega)) v) (by simp [World.setCell])

theorem partRel.setF {m : Int} {w : World} {fv : Int} {W : World} (h : partRel m w fv W) (v : Int) : partRel m w v (W.setCell ⟨w.heap.size + 1, 0, none⟩ (.int .i64 v)) := by
  have z := h.z
  have hk := fun k (hk : k ≠ w.heap.size + 1) => Below.heap_setCell W ⟨w.heap.size + 1, 0, none⟩ (.int .i64 v) k hk
  exact ⟨World.cell?_setCell_same' _ _ _ (by rw [h.c]; rfl), by rw [World.frozen?_setCell]; exact h.fr, (World.cell?_of_block (hk w.heap.size (by omega))).trans h.a, (World.cell?_of_block (hk (w.heap.size + 3) (by omega))).trans h.p,
    (World.cell?_of_block (hk (w.heap.size + 4) (by omega))).trans h.v, by rw [World.frozen?_setCell]; exact h.f, h.u.setCell (.inr (by show w.heap.size ≤ w.heap.size + 1; omega)) _, by simpa [World.setCell] using z⟩
theorem partRel.upd {m : Int} {w : World} {fv : Int} {W W' : World} (h : partRel m w fv W) (u : Upd W W' []) : partRel m w fv W' := by
  have z := h.z
  exact h.moved (fun k hk _ _ _ => u.block k hk (by simp)) ((u.cells.2.1 (w.heap.size + 2) 0 (by omega)).trans h.f) (h.u.trans u) u.size
theorem keeps_upd {W W' : World} (u : Upd W W' []) : KeepsOthers W W' := ⟨u.size, fun k o hk _ => (u.block k (Array.getElem?_eq_some_iff.1 hk).1 (by simp)).trans hk⟩
def wordRel (m f0 : Int) (x : List UInt8) (w W : World) (t : Value) (wr : World) : Prop :=
  ∃ k : Nat, t = .int .i64 k ∧ k ≤ 8 ∧ Hid (partRel m w (orF m f0 x k) wr) ∧ KeepsOthers W wr ∧ wr.cell? ⟨w.heap.size + 2, 0, none⟩ = W.cell? ⟨w.heap.size + 2, 0, none⟩

set_option maxHeartbeats 4000000 in
set_option maxRecDepth 100000 in
theorem flagsParse_any (l : List UInt8) (m : Int) (w : World) (hl : l.length ≤ 4000000000) : Calls Tryz.prog 211 #[.string (bs l), .int .i64 m] w fun e w' => e = .returned (.tuple #[.int .i64 (parseF m l).1, .int .i64 (parseF m l).2]) ∧ Upd w w' [] := by
  have Hss := fun w => hid (splitSeq_any l w)
  refine (callsIn_wide (n := 20)).1 ?_
  refine callsIn_of_wp_marks Tryz.func211 rfl trivial ?_ rfl
  simp only [Tryz.ntmps211, List.size_toArray, List.length_cons, List.length_nil, Nat.reduceAdd, Nat.reduceSub, Array.replicate_succ, Array.replicate_zero, List.push_toArray, List.append_toArray, List.nil_append, List.cons_append]
  gi_wp2_with (refine ⟨trivial, ?_⟩; gi_at_call 222; refine (CallsIn.mono (callsIn_wide.2 (Hss _).out) ?_); rintro e w' ⟨rfl, rfl⟩)
  generalize hw0 : World.alloc _ (.cells #[.int .i64 0] 3) = w0
  have hB0 : Blk w0 w.heap.size 3 #[.int .i64 m] := by rw [← hw0]; exact ((((Blk.new _ _ _).alloc _).alloc _).alloc _).alloc _
  have hB1 : Blk w0 (w.heap.size + 1) 3 #[.int .i64 0] := by rw [← hw0]; exact (((Blk.new_at (by simp)).alloc _).alloc _).alloc _
  have hB2 : Blk w0 (w.heap.size + 2) 9 #[.string (bs l)] := by rw [← hw0]; exact ((Blk.new_at (by simp)).alloc _).alloc _
  have hB3 : Blk w0 (w.heap.size + 3) 9 #[.string ⟨#[32]⟩] := by rw [← hw0]; exact (Blk.new_at (by simp)).alloc _
  have hB4 : Blk w0 (w.heap.size + 4) 3 #[.int .i64 0] := by rw [← hw0]; exact Blk.new_at (by simp)
  have hU0 : Upd w w0 [] := by rw [← hw0]; exact ((((Upd.refl _ _).alloc _).alloc _).alloc _).alloc _ |>.alloc _
  have hz0 : w0.heap.size = w.heap.size + 5 := by rw [← hw0]; simp
  clear hw0
  refine wpIn_rangeFunc_cell (F := Fence.wide) (n := 20) rfl (by omega) (gf := 110) (lb := #[.pointer (some ⟨w.heap.size + 3, 0, none⟩), .pointer (some ⟨w.heap.size + 2, 0, none⟩), .pointer (some ⟨w.heap.size + 4, 0, none⟩)]) rfl trivial (enters_of Tryz.func110 (by kernel_rfl) rfl)
    (split_iter (20 - 1) (by omega) (w.heap.size + 3) (w.heap.size + 2) (w.heap.size + 4) l hl) rfl (by omega) (hB2.cell 0)
    (fun pre W => partRel m w (foldF m 0 pre) W) (fun s A o h => h.alloc o) (fun s A k o o' h hk ho hc => h.putObj (by omega) ho hc o') (fun s A v h => h.setS v) (fun s A h => ⟨h.p, h.v, h.f⟩)
    ⟨by rw [hB1.cell 0]; rfl, hB1.frozen 0, by simpa using hB0.cell 0, by simpa using hB3.cell 0, by simpa using hB4.cell 0, hB2.frozen 0, hU0, by omega⟩
    (fun x => { tmps := #[Value.string (bs l), Value.int IntKind.i64 m, undef, Value.pointer (some { block := w.heap.size, off := 0 }), Value.int IntKind.i64 0, Value.int IntKind.i64 0, Value.pointer (some { block := w.heap.size + 1, off := 0 }), Value.string (bs x), undef, undef, undef, undef, Value.string (bs l), Value.func (Fn.func 110) #[] #[Value.pointer (some { block := w.heap.size + 1 + 1 + 1, off := 0 }), Value.pointer (some { block := w.heap.size + 1 + 1, off := 0 }), Value.pointer (some { block := w.heap.size + 1 + 1 + 2, off := 0 })], Value.string (bs x), undef, undef, undef, undef, undef, undef, undef, undef, undef, undef, undef, undef, undef, undef, undef, undef, undef, undef, undef, undef, undef, undef, undef, undef, undef], defers := [] }) ?assign ?body ?done
  case assign =>
    intro lp x W K hK
    gi_wp2
    exact hK
  case body =>
    rintro lp pre x W hI hBs
    have Hwd := fun w => hid (flagWords_any w)
    gi_wp2_with (refine ⟨trivial, ?_⟩; gi_at_call 143; refine (CallsIn.mono (CallsIn.inRound lp (callsIn_wide.2 (Hwd _).out)) ?_); rintro e W1 ⟨rfl, hU1⟩)
    have hcS : W1.cell? ⟨w.heap.size + 2, 0, none⟩ = W.cell? ⟨w.heap.size + 2, 0, none⟩ := hU1.cells.1 _ _ hBs
    have hI1 := hid (hI.upd hU1)
    have hK1 := keeps_upd hU1
    have Hsn := hid (foldF_snoc m x pre 0)
    clear hI hU1
    generalize foldF m 0 pre = f0 at Hsn hI1
    generalize hfc : flagCells = fc
    have Hfc := hid hfc
    clear hfc
    gi_loopw [16] (fun t wr => wordRel m f0 x w W t wr) (fun t _ => 8 - (intOf t).toNat)
    case atStart => exact ⟨0, rfl, by omega, hI1, hK1, hcS⟩
    case round =>
      obtain ⟨k, rfl, hk, hP, hKo, hcs⟩ := hrel
      have hc := hP.out.c
      have hfz := hP.out.fr
      have ha := hP.out.a
      have hz := hP.out.z
      have hz1 : w.heap.size + 1 < wr.heap.size := by omega
      have hz2 : w.heap.size < wr.heap.size := by omega
      by_cases hlt : k < 8
      · have hr := run_word k hlt
        rw [Hfc.out] at hr
        have hstep : Hid (orF m f0 x (k + 1) = if (flagT.getD k (0, [])).2 = x then bits BinOp.or IntKind.i64 (orF m f0 x k) (bits BinOp.and IntKind.i64 (flagT.getD k (0, [])).1 m) else orF m f0 x k) := hid rfl
        generalize hp : flagT.getD k (0, []) = p at hr hstep
        obtain ⟨fl, wd⟩ := p
        simp only at hr hstep
        clear hp
        generalize orF m f0 x k = fk at *
        have hki : (k : Int) < 8 := by omega
        have hkey := bs_beq wd x
        by_cases hw : wd = x
        · rw [decide_eq_true hw] at hkey
          have hst := hid (hstep.out.trans (if_pos hw))
          clear hw hstep
          gi_wp2
          go_roundw
          case rel => exact ⟨k + 1, by go_num, by omega, hid (by rw [hst.out]; exact (hP.out.setF _).alloc _), hKo.trans ((KeepsOthers.setCell _ _ _).trans (KeepsOthers.alloc _ _)), (World.cell?_of_block ((Below.heap_alloc _ _ (w.heap.size + 2) (by simp [World.setCell]; omega)).trans (Below.heap_setCell wr _ _ (w.heap.size + 2) (by show w.heap.size + 2 ≠ w.heap.size + 1; omega)))).trans hcs⟩
          case measure => simp [intOf]; omega
        · rw [decide_eq_false hw] at hkey
          have hst := hid (hstep.out.trans (if_neg hw))
          clear hw hstep
          gi_wp2
          go_roundw
          case rel => exact ⟨k + 1, by go_num, by omega, hid (by rw [hst.out]; exact hP.out.alloc _), hKo.trans (KeepsOthers.alloc _ _), (World.cell?_of_block (Below.heap_alloc _ _ (w.heap.size + 2) (by omega))).trans hcs⟩
          case measure => simp [intOf]; omega
      · obtain rfl : k = 8 := by omega
        gi_wp2
        exact ⟨hKo, by rw [Hsn.out]; exact hP.out, hcs⟩
  case done =>
    rintro D W hD hI hK
    have hc := hI.c
    have ha := hI.a
    have HO : Hid (parseF m l = if (flagText (foldF m 0 (splitL 32 l)) m).1 = l then (foldF m 0 (splitL 32 l), 0) else (0, 4)) := hid rfl
    generalize foldF m 0 (splitL 32 l) = fv at hI hc HO
    obtain ⟨PO, hPO⟩ : ∃ x, parseF m l = x := ⟨_, rfl⟩
    rw [hPO] at HO
    have HPO := hid hPO
    clear hPO
    have Htx := fun w => hid (text104_any fv m w)
    generalize flagText fv m = tx at Htx HO
    obtain ⟨tx, te⟩ := tx
    have hkey := bs_beq tx l
    have HI := hid hI
    have HK := hid hK
    have HD := hid hD
    clear hI hK hD
    by_cases ht : tx = l
    · rw [decide_eq_true ht] at hkey
      have HP := hid (HO.out.trans (if_pos ht))
      clear ht HO
      gi_wp2_with (refine ⟨trivial, ?_⟩; gi_at_call 87; refine (CallsIn.mono (callsIn_wide.2 (Htx _).out) ?_); rintro e W2 ⟨rfl, hU2⟩; have hc2 := (HI.out.upd hU2).c; have HK2 := hid ((hU2.block D (Array.getElem?_eq_some_iff.1 HK.out).1 (by simp)).trans HK.out); have HU2 := hid ((HI.out.upd hU2).u); clear hU2)
      refine ⟨by simp, .inl ⟨_, _, rfl, run_takeDeferred HK2.out, ?_⟩⟩
      rw [HPO.out, HP.out]
      have hDD := HD.out
      exact ⟨.tuple #[.int .i64 fv, .int .i64 0], by simp [results, Tryz.results211, go_sem], rfl, HU2.out.grown (grownBy_putObj' W2 D _) (fun j e => by cases e; right; omega)⟩
    · rw [decide_eq_false ht] at hkey
      have HP := hid (HO.out.trans (if_neg ht))
      clear ht HO
      gi_wp2_with (refine ⟨trivial, ?_⟩; gi_at_call 87; refine (CallsIn.mono (callsIn_wide.2 (Htx _).out) ?_); rintro e W2 ⟨rfl, hU2⟩; have hc2 := (HI.out.upd hU2).c; have HK2 := hid ((hU2.block D (Array.getElem?_eq_some_iff.1 HK.out).1 (by simp)).trans HK.out); have HU2 := hid ((HI.out.upd hU2).u); clear hU2)
      refine ⟨by simp, .inl ⟨_, _, rfl, run_takeDeferred HK2.out, ?_⟩⟩
      rw [HPO.out, HP.out]
      have hDD := HD.out
      exact ⟨.tuple #[.int .i64 0, .int .i64 4], by simp [results, Tryz.results211, go_sem], rfl, HU2.out.grown (grownBy_putObj' W2 D _) (fun j e => by cases e; right; omega)⟩
end Go.Proofs.YtfpdeiefkimaaaaGreatDoor
/-
  The lines of a class's text: what they say; plain laws. No program text.
-/
set_option linter.unusedSimpArgs false
set_option linter.unusedVariables false
namespace Go.Proofs.YtfpdeiefkimaaaaGreatDoor
open Go.RowKit

def wClass : List UInt8 := [99, 108, 97, 115, 115]
def wSuper : List UInt8 := [115, 117, 112, 101, 114]
def wIface : List UInt8 := [105, 102, 97, 99, 101]
def wFlags : List UInt8 := [102, 108, 97, 103, 115]
def wLoader : List UInt8 := [108, 111, 97, 100, 101, 114]
def wMethod : List UInt8 := [109, 101, 116, 104, 111, 100]
def wLocals : List UInt8 := [108, 111, 99, 97, 108, 115]
def wStack : List UInt8 := [115, 116, 97, 99, 107]
def wEnd : List UInt8 := [101, 110, 100]

/-- A method's contents; what a reader of lines has. -/
structure MethS where
  nm : List UInt8
  ds : List UInt8
  fl : Int
  lo : Int
  st : Int
  code : List InstL
structure RdS where
  nm : List UInt8
  sup : List UInt8
  ifs : List (List UInt8)
  fl : Int
  ld : Int
  ms : List MethS
  st : Nat
def rd0 : RdS := ⟨[], [], [], 0, 0, [], 0⟩

def namedP (wd : List UInt8) : List (List UInt8) → Option (List UInt8)
  | [a, b] => if a = wd ∧ b ≠ [] then some b else none
  | _ => none
def numL (s : List UInt8) : Option Int := if (numOut s).2 = true ∧ 0 ≤ (numOut s).1 ∧ s.length ≤ 9 then some (numOut s).1 else none
def numberedP (wd : List UInt8) (ps : List (List UInt8)) : Option Int := (namedP wd ps).bind numL
def flagsP (m : Int) (ps : List (List UInt8)) : Option Int := if ps = [] then some 0 else if Lib.join ps [32] = [] then none else if (parseF m (Lib.join ps [32])).2 = 0 then some (parseF m (Lib.join ps [32])).1 else none
def clsFlagsP : List (List UInt8) → Option Int
  | a :: ps => if a = wFlags then flagsP 1585 ps else none
  | [] => none
def beginP : List (List UInt8) → Option MethS
  | a :: b :: c :: ps => if a = wMethod ∧ b ≠ [] ∧ c ≠ [] then (flagsP 1055 ps).map fun f => ⟨b, c, f, 0, 0, []⟩ else none
  | _ => none
/-- What a line makes of what has been read. -/
def stepL (r : RdS) (line : List UInt8) : Option RdS :=
  match r.st with
  | 0 => (namedP wClass (splitL 32 line)).map fun s => { r with nm := s, st := 1 }
  | 1 => (namedP wSuper (splitL 32 line)).map fun s => { r with sup := s, st := 2 }
  | 2 => match namedP wIface (splitL 32 line) with
    | some s => some { r with ifs := r.ifs ++ [s] }
    | none => (clsFlagsP (splitL 32 line)).map fun f => { r with fl := f, st := 3 }
  | 3 => (numberedP wLoader (splitL 32 line)).map fun n => { r with ld := n, st := 4 }
  | 4 => if line = wEnd then some { r with st := 8 } else (beginP (splitL 32 line)).map fun m => { r with ms := r.ms ++ [m], st := 5 }
  | 5 => (numberedP wLocals (splitL 32 line)).map fun n => { r with ms := r.ms.modify (r.ms.length - 1) fun m => { m with lo := n }, st := 6 }
  | 6 => (numberedP wStack (splitL 32 line)).map fun n => { r with ms := r.ms.modify (r.ms.length - 1) fun m => { m with st := n }, st := 7 }
  | 7 => if line = wEnd then some { r with st := 8 } else match beginP (splitL 32 line) with
    | some m => some { r with ms := r.ms ++ [m], st := 5 }
    | none => if (parseOut line).2 = 0 then some { r with ms := r.ms.modify (r.ms.length - 1) fun m => { m with code := m.code ++ [(parseOut line).1] } } else none
  | _ => none
/-- All lines, the last piece behind them; the line at fault. -/
def readL : RdS → List (List UInt8) → Nat → RdS ⊕ Nat
  | _, [], n => .inr n
  | r, [x], n => if x = [] ∧ r.st = 8 then .inl r else .inr n
  | r, x :: y :: t, n => match stepL r x with
    | none => .inr n
    | some r' => readL r' (y :: t) (n + 1)

/-! ### A name behind a word -/
theorem split_len {c : UInt8} : ∀ {l : List UInt8}, c ∈ l → 2 ≤ (splitL c l).length := by
  intro l h
  rw [splitL_length]
  have := List.count_pos_iff.2 h
  omega
theorem split_head (wd t : List UInt8) (hw : (32 : UInt8) ∉ wd) : splitL 32 (wd ++ 32 :: t) = wd :: splitL 32 t := splitL_cut 32 wd t hw
theorem prefix_iff (wd line : List UInt8) : Lib.hasPrefix line (wd ++ [32]) = true ↔ ∃ t, line = wd ++ 32 :: t := by
  unfold Lib.hasPrefix
  rw [List.isPrefixOf_iff_prefix]
  constructor
  · rintro ⟨t, rfl⟩
    exact ⟨t, by simp⟩
  · rintro ⟨t, rfl⟩
    exact ⟨t, by simp⟩
theorem trim_at (wd t : List UInt8) : Lib.trimPrefix (wd ++ 32 :: t) (wd ++ [32]) = t := by
  unfold Lib.trimPrefix
  rw [if_pos ((prefix_iff wd _).2 ⟨t, rfl⟩)]
  simp
theorem splitL_inv {line : List UInt8} {a : List UInt8} {ps : List (List UInt8)} (h : splitL 32 line = a :: ps) (hp : ps ≠ []) : line = a ++ 32 :: Lib.join ps [32] := by
  have := join_split 32 line
  rw [h] at this
  rw [← this]
  cases ps with
  | nil => exact absurd rfl hp
  | cons b t => simp [Lib.join, List.intercalate, List.intersperse]
theorem splitL_single {line : List UInt8} {a : List UInt8} (h : splitL 32 line = [a]) : line = a := by
  have := join_split 32 line
  rw [h] at this
  rw [← this]
  simp [Lib.join, List.intercalate, List.intersperse]
theorem indexByte_mem (c : UInt8) (l : List UInt8) : (0 ≤ Lib.indexByte l c) ↔ c ∈ l := by
  constructor
  · intro h
    exact List.mem_of_getElem? (indexByte_get c l h)
  · intro h
    obtain ⟨a, b, rfl, ha⟩ := List.eq_append_cons_of_mem h
    rw [indexByte_at c a b ha]
    omega
/-- What package shapes takes behind a word. -/
def takenB (wd line : List UInt8) : Bool := Lib.hasPrefix line (wd ++ [32]) && (decide (Lib.trimPrefix line (wd ++ [32]) ≠ []) && !decide (0 ≤ Lib.indexByte (Lib.trimPrefix line (wd ++ [32])) 32))
theorem named_law (wd line : List UInt8) (hw : (32 : UInt8) ∉ wd) : namedP wd (splitL 32 line) = if takenB wd line then some (Lib.trimPrefix line (wd ++ [32])) else none := by
  unfold takenB
  by_cases hp : Lib.hasPrefix line (wd ++ [32]) = true
  · obtain ⟨t, rfl⟩ := (prefix_iff wd line).1 hp
    rw [hp, trim_at, split_head wd t hw]
    by_cases h32 : (32 : UInt8) ∈ t
    · have h2 := split_len h32
      rw [decide_eq_true ((indexByte_mem 32 t).2 h32)]
      simp only [Bool.true_and, Bool.not_true, Bool.and_false]
      match hs : splitL 32 t, h2 with
      | a :: b :: r, _ => rfl
    · rw [decide_eq_false (fun h => h32 ((indexByte_mem 32 t).1 h)), splitL_none 32 t h32]
      show (if wd = wd ∧ t ≠ [] then some t else none) = _
      by_cases ht : t = [] <;> simp [ht]
  · rw [Bool.not_eq_true] at hp
    rw [hp]
    simp only [Bool.false_and]
    match hs : splitL 32 line with
    | [] => rfl
    | [a] => rfl
    | [a, b] =>
      show (if a = wd ∧ b ≠ [] then some b else none) = _
      rw [if_neg]
      · rfl
      · rintro ⟨rfl, -⟩
        have := splitL_inv hs (by simp)
        have := (prefix_iff a line).2 ⟨_, this⟩
        rw [hp] at this
        cases this
    | a :: b :: c :: r => rfl

/-! ### A number -/
theorem numL_blank {s : List UInt8} (h : (32 : UInt8) ∈ s) : numL s = none := by
  unfold numL
  rw [if_neg]
  rintro ⟨h1, -⟩
  have h2 := (numOut_good h1).1
  rw [← h2] at h
  exact (itoa_no _ 32 h).1 rfl
theorem numL_nil : numL [] = none := by decide
/-- What package shapes takes as a number. -/
def numB (s : List UInt8) (n : Int) (ok : Bool) : Bool := ok && (decide (s.length ≤ 9) && (decide (0 ≤ n) && decide (Lib.itoa n = s)))
theorem decDigits_lt : ∀ (k u : Nat), (Lib.decDigits u).length ≤ k → u < 10 ^ k
  | 0, u, h => by
    obtain ⟨c, t, hd, -⟩ := dec_head u
    rw [hd] at h
    simp at h
  | k + 1, u, h => by
    rw [Lib.decDigits] at h
    by_cases hu : u < 10
    · have : 10 ^ 1 ≤ 10 ^ (k + 1) := Nat.pow_le_pow_right (by omega) (by omega)
      omega
    · rw [dif_neg hu] at h
      have := decDigits_lt k (u / 10) (by simp at h; omega)
      rw [Nat.pow_succ]
      omega
theorem number_law (s : List UInt8) (ok : Bool) (hok : ok = true ↔ ∃ n, Lib.atoiAll s = .ok n) : numL s = if numB s (atoiV s) ok then some (atoiV s) else none := by
  unfold numB numL
  by_cases h : (numOut s).2 = true ∧ 0 ≤ (numOut s).1 ∧ s.length ≤ 9
  · rw [if_pos h]
    obtain ⟨h1, h2, h3⟩ := h
    obtain ⟨h4, h5, h6⟩ := numOut_good h1
    have h7 := atoi_itoa (numOut s).1 (by omega) (by omega)
    have h8 := atoiV_itoa (numOut s).1 (by omega) (by omega)
    rw [h4] at h7 h8
    rw [h8, hok.2 ⟨_, h7⟩, decide_eq_true h3, decide_eq_true h2, decide_eq_true h4]
    simp
  · rw [if_neg h]
    by_cases hb : (ok && (decide (s.length ≤ 9) && (decide (0 ≤ atoiV s) && decide (Lib.itoa (atoiV s) = s)))) = true
    · exfalso
      simp only [Bool.and_eq_true, decide_eq_true_eq] at hb
      obtain ⟨h1, h2, h3, h4⟩ := hb
      generalize atoiV s = n at *
      have h5 : Lib.itoa n = Lib.decDigits n.toNat := by unfold Lib.itoa; rw [if_neg (by omega)]
      have h6 := decDigits_lt 9 n.toNat (by rw [← h5, h4]; exact h2)
      have h7 := numOut_itoa n (by omega) (by omega)
      rw [h4] at h7
      exact h (by rw [h7]; exact ⟨rfl, h3, h2⟩)
    · rw [Bool.not_eq_true] at hb
      rw [hb]
      rfl
end Go.Proofs.YtfpdeiefkimaaaaGreatDoor
/-
  The document's reading of flags, walked.
-/
set_option linter.unusedSimpArgs false
set_option linter.unusedVariables false
namespace Go.Proofs.YtfpdeiefkimaaaaGreatDoor
open Go.RowKit Go.Sort

def parseRelR (l : List UInt8) (ms : List Int) (ws : List (List UInt8)) (w : World) (t u v : Value) (wr : World) : Prop :=
  ∃ (k a : Nat) (f : Int), t = .int .i64 f ∧ u = .int .i64 a ∧ v = .int .i64 k ∧ k ≤ ms.length ∧ a ≤ l.length ∧ (0 ≤ f ∧ f ≤ 1024 * k) ∧ Hid (greedy l ms ws 0 0 = greedy l (ms.drop k) (ws.drop k) f a) ∧ w = wr
def pieceW (a : Nat) (x : List UInt8) : List UInt8 := if 0 < a then 32 :: x else x
def takesW (l : List UInt8) (a : Nat) (x : List UInt8) : Prop := a + (pieceW a x).length ≤ l.length ∧ (l.drop a).take (pieceW a x).length = pieceW a x ∧ (a + (pieceW a x).length = l.length ∨ l[a + (pieceW a x).length]? = some 32)
instance (l : List UInt8) (a : Nat) (x : List UInt8) : Decidable (takesW l a x) := by unfold takesW; infer_instance
end Go.Proofs.YtfpdeiefkimaaaaGreatDoor
/-
  The document's readings of a line's words, walked: ParseClass, ParseMethod, named, number, rest, flagsOf.
-/
set_option linter.unusedSimpArgs false
set_option linter.unusedVariables false
namespace Go.Proofs.YtfpdeiefkimaaaaGreatDoor
open Go.RowKit Go.Sort

/-- The words of a line, as they lie. -/
def RowAt (w : World) (g : Nat) (ps : List (List UInt8)) : Prop := g < w.heap.size ∧ ∀ i (h : i < ps.length), w.cell? ⟨g, i, none⟩ = some (.string (bs ps[i]))
theorem RowAt.upd {w w' : World} {g : Nat} {ps : List (List UInt8)} (h : RowAt w g ps) (u : Upd w w' []) : RowAt w' g ps :=
  ⟨Nat.lt_of_lt_of_le h.1 u.size, fun i hi => by rw [u.cells.1 g i h.1]; exact h.2 i hi⟩
/-! ### The rest of a line -/
def restRel (ps : List (List UInt8)) (k : Nat) (w : World) (t u : Value) (wr : World) : Prop :=
  ∃ (i : Nat) (s : List UInt8), t = .string (bs s) ∧ u = .int .i64 i ∧ k + 1 ≤ i ∧ i ≤ ps.length ∧ Hid (s = Lib.join ((ps.drop k).take (i - k)) [32]) ∧ wr = w

end Go.Proofs.YtfpdeiefkimaaaaGreatDoor
/-
  The document's flagsOf, walked.
-/
set_option linter.unusedSimpArgs false
set_option linter.unusedVariables false
namespace Go.Proofs.YtfpdeiefkimaaaaGreatDoor
open Go.RowKit Go.Sort

/-- What flagsOf answers of the words behind a place. -/
def flagsO (m : Int) (ps : List (List UInt8)) (k : Nat) : Int × Bool :=
  if ps.length = k then (0, true) else if ps.length < k ∨ Lib.join (ps.drop k) [32] = [] then (0, false) else ((parseF m (Lib.join (ps.drop k) [32])).1, decide ((parseF m (Lib.join (ps.drop k) [32])).2 = 0))
end Go.Proofs.YtfpdeiefkimaaaaGreatDoor
/-
  A line that begins with the word of a method is no instruction; plain laws for the document's reader of classes.
-/
set_option linter.unusedSimpArgs false
set_option linter.unusedVariables false
namespace Go.Proofs.YtfpdeiefkimaaaaGreatDoor
open Go.RowKit

end Go.Proofs.YtfpdeiefkimaaaaGreatDoor
