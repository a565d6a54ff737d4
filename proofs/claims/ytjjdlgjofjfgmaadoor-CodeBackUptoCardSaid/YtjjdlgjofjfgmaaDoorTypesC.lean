/-
  Package types, walked: Parse, ParseRef.
-/
import Derived.Test.YtjjdlgjofjfgmaaDoorTypesB
set_option linter.unusedSimpArgs false
set_option linter.unusedVariables false
namespace Go.Proofs.YtjjdlgjofjfgmaaDoor
open Go.RowKit

theorem MaxLenAt.lt {w : World} (h : MaxLenAt w) : 0 < w.heap.size := by
  obtain ⟨m, hm⟩ := h
  rcases Nat.lt_or_ge 0 w.heap.size with h | h
  · exact h
  · simp [World.cell?, Array.getElem?_eq_none h] at hm
theorem MaxLenAt.alloc {w : World} (h : MaxLenAt w) (o : Obj) : MaxLenAt (w.alloc o) := h.upd (F := []) ((Upd.refl w []).alloc o) (by simp)

theorem Upd.newer {w0 w w' : World} {F G : List Nat} (h : Upd w0 w F) (k : Upd w w' G) (hG : ∀ b, b ∈ G → b ∈ F ∨ w0.heap.size ≤ b) : Upd w0 w' F :=
  ⟨k.os.trans h.os, k.tape.trans h.tape, k.output.trans h.output, Nat.le_trans h.size k.size, fun b hb hF => (k.block b (Nat.lt_of_lt_of_le hb h.size) (fun hg => by
    rcases hG b hg with h1 | h1
    · exact hF h1
    · omega)).trans (h.block b hb hF)⟩

def parsePost (r : Nat × List UInt8 × Int) (w : World) (e : Ending) (w' : World) : Prop :=
  e = .returned (.tuple #[ty r.1 r.2.1, .int .i64 r.2.2]) ∧ Upd w w' []

set_option maxHeartbeats 4000000 in
theorem parse_any (l : List UInt8) (w : World) (hl : l.length ≤ 9223372036854775807) (hm : MaxLenAt w) : Calls Tryd.prog 68 #[.string (bs l)] w (parsePost (parseL l) w) := by
  have hs : (bs l).size = l.length := bs_size l
  by_cases hbig : 2000 < l.length
  · rw [show parseL l = (0, [], 5) by unfold parseL; rw [if_pos hbig]]
    go_enter Tryd.func68, Tryd.ntmps68
    go_wp2
    exact bodyPost_ret (v := .tuple #[ty 0 [], .int .i64 5]) (by simp [results, Tryd.results68, go_sem, ty, bs]) rfl ⟨rfl, (Upd.refl _ _).alloc _⟩
  · have hU0 : Upd w ((w.alloc (.cells #[.int .i64 0, .string ⟨#[]⟩] 69)).alloc (.cells #[.string (bs l), .bool false] 108)) [] := ((Upd.refl w []).alloc _).alloc _
    have hC0 : Blk ((w.alloc (.cells #[.int .i64 0, .string ⟨#[]⟩] 69)).alloc (.cells #[.string (bs l), .bool false] 108)) (w.heap.size + 1) 108 #[.string (bs l), .bool false] := Blk.new_at (by simp)
    have hR0 : Blk ((w.alloc (.cells #[.int .i64 0, .string ⟨#[]⟩] 69)).alloc (.cells #[.string (bs l), .bool false] 108)) w.heap.size 69 #[.int .i64 0, .string ⟨#[]⟩] := (Blk.new _ _ _).alloc _
    have Hone := hid (one_any (w.heap.size + 1) l false _ hC0 (by omega) (hm.upd hU0 (by simp)))
    have p0 : oneL l = none → parseL l = (0, [], 4) := fun h => by unfold parseL; rw [if_neg hbig, h]
    have p1 : ∀ nm c t, oneL l = some (nm, c :: t) → parseL l = (0, [], 4) := fun nm c t h => by unfold parseL; rw [if_neg hbig, h]
    have p2 : ∀ nm, oneL l = some (nm, []) → parseL l = if 255 < lead l then (0, [], 5) else (lead l, nm, 0) := fun nm h => by unfold parseL; rw [if_neg hbig, h]
    have HU0 := hid hU0
    have HR0 := hid hR0
    have hgl := hm.lt
    clear hU0 hC0 hR0
    go_enter Tryd.func68, Tryd.ntmps68
    go_wp2_with fail
    refine Hone.out.mono ?_
    rintro e w1 ⟨nm, l', hU1, hC1, hl', hres⟩
    have hU2 := HU0.out.newer hU1 (by intro b hb; simp at hb; right; omega)
    have hR1 := hU1.blk HR0.out (by simp)
    clear HU0 HR0 Hone
    have hw1 := hC1.lt
    have hC2 := hC1.alloc (.cells #[.int .i64 (lead l), .string (bs nm)] 69)
    have hR2 := hR1.alloc (.cells #[.int .i64 (lead l), .string (bs nm)] 69)
    have hT2 : Blk (w1.alloc (.cells #[.int .i64 (lead l), .string (bs nm)] 69)) w1.heap.size 69 #[.int .i64 (lead l), .string (bs nm)] := Blk.new _ _ _
    have hU3 := hU2.alloc (.cells #[.int .i64 (lead l), .string (bs nm)] 69)
    have c0 := hC2.cell 0
    have c1 := hC2.cell 1
    have r0 := hR2.cell 0
    have r1 := hR2.cell 1
    have rf0 := hR2.frozen 0
    have rf1 := hR2.frozen 1
    simp at c0 c1 r0 r1
    have fin : ∀ (n : Nat) (m : List UInt8) (k : Int), Hid (Blk (((w1.alloc (.cells #[.int .i64 (lead l), .string (bs nm)] 69)).setCell ⟨w.heap.size, 0, none⟩ (.int .i64 n)).setCell ⟨w.heap.size, 1, none⟩ (.string (bs m))) w.heap.size 69 #[.int .i64 n, .string (bs m)]) := by
      intro n m k
      exact (hR2.set_ 0 (.int .i64 n)).set_ 1 (.string (bs m))
    rcases hres with ⟨ho, rfl⟩ | ⟨ho, rfl⟩
    · unfold ty
      go_wp2
      have g0 := (fin 0 [] 0).out.cell 0
      have g1 := (fin 0 [] 0).out.cell 1
      simp [bs] at g0 g1
      refine bodyPost_ret (v := .tuple #[ty 0 [], .int .i64 4]) (by simp [results, Tryd.results68, go_sem, ty, bs, g0, g1]) rfl ?_
      rw [p0 ho]
      exact ⟨rfl, (hU3.setCell (.inr (Nat.le_refl _)) _).setCell (.inr (Nat.le_refl _)) _⟩
    · rcases l' with _ | ⟨c, t⟩
      · rw [show bs ([] : List UInt8) = ⟨#[]⟩ from rfl] at c0
        by_cases hw : 255 < lead l
        · rw [show wideOr false (lead l) = true by simp [wideOr, hw]] at c1
          unfold ty
          go_wp2
          have g0 := (fin 0 [] 0).out.cell 0
          have g1 := (fin 0 [] 0).out.cell 1
          simp [bs] at g0 g1
          refine bodyPost_ret (v := .tuple #[ty 0 [], .int .i64 5]) (by simp [results, Tryd.results68, go_sem, ty, bs, g0, g1]) rfl ?_
          rw [p2 _ ho, if_pos hw]
          exact ⟨rfl, (hU3.setCell (.inr (Nat.le_refl _)) _).setCell (.inr (Nat.le_refl _)) _⟩
        · rw [show wideOr false (lead l) = false by simp [wideOr]; omega] at c1
          unfold ty
          go_wp2
          have g0 := (fin (lead l) nm 0).out.cell 0
          have g1 := (fin (lead l) nm 0).out.cell 1
          simp [bs] at g0 g1
          refine bodyPost_ret (v := .tuple #[ty (lead l) nm, .int .i64 0]) (by simp [results, Tryd.results68, go_sem, ty, bs, g0, g1]) rfl ?_
          rw [p2 _ ho, if_neg hw]
          exact ⟨rfl, (hU3.setCell (.inr (Nat.le_refl _)) _).setCell (.inr (Nat.le_refl _)) _⟩
      · have he : (bs (c :: t)).toList.isEmpty = false := by rw [bs_toList]; rfl
        have he2 : ¬ (bs (c :: t)).toList = [] := by rw [bs_toList]; simp
        unfold ty
        go_wp2
        have g0 := (fin 0 [] 0).out.cell 0
        have g1 := (fin 0 [] 0).out.cell 1
        simp [bs] at g0 g1
        refine bodyPost_ret (v := .tuple #[ty 0 [], .int .i64 4]) (by simp [results, Tryd.results68, go_sem, ty, bs, g0, g1]) rfl ?_
        rw [p1 _ _ _ ho]
        exact ⟨rfl, (hU3.setCell (.inr (Nat.le_refl _)) _).setCell (.inr (Nat.le_refl _)) _⟩
end Go.Proofs.YtjjdlgjofjfgmaaDoor
