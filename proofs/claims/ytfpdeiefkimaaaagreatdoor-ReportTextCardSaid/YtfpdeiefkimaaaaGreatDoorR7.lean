/-
  New: a world of the three classes that each world begins with; walked. (Layer 6.)
-/
import Derived.Test.YtfpdeiefkimaaaaGreatDoorR6
import Derived.Test.YtfpdeiefkimaaaaGreatDoorR5
import Derived.Test.YtfpdeiefkimaaaaGreatDoorR1
import Derived.Test.YtfpdeiefkimaaaaGreatDoorKQ
import Derived.Test.YtfpdeiefkimaaaaGreatDoorR2
import Derived.Test.YtfpdeiefkimaaaaGreatDoorKR
import Derived.Test.YtfpdeiefkimaaaaGreatDoorKD
import Derived.Deep.DeepCutAuto
import Derived.Lib.QuietBelow
set_option linter.unusedSimpArgs false
set_option linter.unusedVariables false
namespace Go.Proofs.YtfpdeiefkimaaaaGreatDoor
open Go.RowKit Go.WideShapes Go.Maps Go.WideMaps

theorem HW.put {w : World} {b mb : Nat} {es : List Ent} {S : List Nat} (h : HW w b mb es S) (r : RdS) (vi vm : Value) (cs : List Value) (hl : Lists w 0 r vi vm cs) (hk : r.kept) (ab : Int) (hab : -1 ≤ ab ∧ ab < es.length)
    (I : Option Addr) (ci : Nat) (ids : List Nat) (hI : IntsAt w I (ids.map Int.ofNat)) (hids : ∀ i, i ∈ ids → i < es.length) (hlen : ids.length ≤ 1000000) (hci : ids.length ≤ ci) (hx : r.nm ∉ es.map fun e => e.r.nm) (hes : es.length < 300) :
    Calls Tryz.prog 33 #[.pointer (some ⟨b, 0, none⟩), .agg #[.string (bs r.nm), .string (bs r.sup), vi, .int .i64 r.fl, .int .i64 r.ld, vm], .int .i64 ab, .slice I ids.length ci] w fun e w' => e = .returned (.int .i64 es.length) ∧ ∃ S', HW w' b mb (es ++ [putOf es r ab ids]) S' ∧ Upd w w' S ∧ (∀ k, k ∈ S' → k ∈ S ∨ k ∈ listF vi vm cs ∨ w.heap.size ≤ k) := by
  obtain ⟨A, cap, n, D, gs, h⟩ := h
  obtain ⟨A1, k1, rfl⟩ := own_val hl.oi
  obtain ⟨A2, k2, rfl⟩ := own_val hl.om
  refine (put_any h r A1 A2 _ _ k1 k2 cs hl hk ab hab I ci ids hI hids hlen hci hx hes).mono ?_
  rintro e w' ⟨he, S', h1, h2, h3⟩
  refine ⟨he, S', h1, h2.mono (fun k hk => ?_), h3⟩
  rcases List.mem_cons.1 hk with rfl | hk
  · exact h.hb
  · rcases List.mem_cons.1 hk with rfl | hk
    · exact h.hm
    · exact h.ha k hk
def objCs (n : Nat) : List Value := [.slice (some ⟨n + 1, 0, none⟩) 1 1, .slice (some ⟨n + 1 + 1, 0, none⟩) 2 2, .slice (some ⟨n + 1 + 1 + 1, 0, none⟩) 2 2]
theorem object_lists (w : World) (c0 : Array Value) : Lists (((((w.alloc (.cells c0 46)).alloc (.cells #[.int .i64 38, .int .i64 0, .string { data := #[] }, .bool false, .string { data := #[] }, .string { data := #[] }, .string { data := #[] }] 90)).alloc (.cells #[.int .i64 1, .int .i64 7, .string { data := #[] }, .bool false, .string { data := #[] }, .string { data := #[] }, .string { data := #[] }, .int .i64 36, .int .i64 0, .string { data := #[] }, .bool false, .string { data := #[] }, .string { data := #[] }, .string { data := #[] }] 90)).alloc (.cells #[.int .i64 4, .int .i64 0, .string { data := #[] }, .bool false, .string { data := #[] }, .string { data := #[] }, .string { data := #[] }, .int .i64 37, .int .i64 0, .string { data := #[] }, .bool false, .string { data := #[] }, .string { data := #[] }, .string { data := #[] }] 90)).alloc (.cells #[.string { data := #[60, 105, 110, 105, 116, 62] }, .string { data := #[40, 41, 86] }, .int .i64 1, .int .i64 1, .int .i64 0, .slice (some ⟨w.heap.size + 1, 0, none⟩) 1 1, .string { data := #[105, 100] }, .string { data := #[40, 41, 73] }, .int .i64 1, .int .i64 1, .int .i64 1, .slice (some ⟨w.heap.size + 1 + 1, 0, none⟩) 2 2, .string { data := #[107, 105, 110] }, .string { data := #[40, 41, 76, 79, 98, 106, 101, 99, 116, 59] }, .int .i64 4, .int .i64 1, .int .i64 1, .slice (some ⟨w.heap.size + 1 + 1 + 1, 0, none⟩) 2 2] 86)) w.heap.size objR (.slice none 0 0) (.slice (some ⟨w.heap.size + 1 + 1 + 1 + 1, 0, none⟩) 3 3) (objCs w.heap.size) ∧ Upd w (((((w.alloc (.cells c0 46)).alloc (.cells #[.int .i64 38, .int .i64 0, .string { data := #[] }, .bool false, .string { data := #[] }, .string { data := #[] }, .string { data := #[] }] 90)).alloc (.cells #[.int .i64 1, .int .i64 7, .string { data := #[] }, .bool false, .string { data := #[] }, .string { data := #[] }, .string { data := #[] }, .int .i64 36, .int .i64 0, .string { data := #[] }, .bool false, .string { data := #[] }, .string { data := #[] }, .string { data := #[] }] 90)).alloc (.cells #[.int .i64 4, .int .i64 0, .string { data := #[] }, .bool false, .string { data := #[] }, .string { data := #[] }, .string { data := #[] }, .int .i64 37, .int .i64 0, .string { data := #[] }, .bool false, .string { data := #[] }, .string { data := #[] }, .string { data := #[] }] 90)).alloc (.cells #[.string { data := #[60, 105, 110, 105, 116, 62] }, .string { data := #[40, 41, 86] }, .int .i64 1, .int .i64 1, .int .i64 0, .slice (some ⟨w.heap.size + 1, 0, none⟩) 1 1, .string { data := #[105, 100] }, .string { data := #[40, 41, 73] }, .int .i64 1, .int .i64 1, .int .i64 1, .slice (some ⟨w.heap.size + 1 + 1, 0, none⟩) 2 2, .string { data := #[107, 105, 110] }, .string { data := #[40, 41, 76, 79, 98, 106, 101, 99, 116, 59] }, .int .i64 4, .int .i64 1, .int .i64 1, .slice (some ⟨w.heap.size + 1 + 1 + 1, 0, none⟩) 2 2] 86)) [] ∧ Blk (((((w.alloc (.cells c0 46)).alloc (.cells #[.int .i64 38, .int .i64 0, .string { data := #[] }, .bool false, .string { data := #[] }, .string { data := #[] }, .string { data := #[] }] 90)).alloc (.cells #[.int .i64 1, .int .i64 7, .string { data := #[] }, .bool false, .string { data := #[] }, .string { data := #[] }, .string { data := #[] }, .int .i64 36, .int .i64 0, .string { data := #[] }, .bool false, .string { data := #[] }, .string { data := #[] }, .string { data := #[] }] 90)).alloc (.cells #[.int .i64 4, .int .i64 0, .string { data := #[] }, .bool false, .string { data := #[] }, .string { data := #[] }, .string { data := #[] }, .int .i64 37, .int .i64 0, .string { data := #[] }, .bool false, .string { data := #[] }, .string { data := #[] }, .string { data := #[] }] 90)).alloc (.cells #[.string { data := #[60, 105, 110, 105, 116, 62] }, .string { data := #[40, 41, 86] }, .int .i64 1, .int .i64 1, .int .i64 0, .slice (some ⟨w.heap.size + 1, 0, none⟩) 1 1, .string { data := #[105, 100] }, .string { data := #[40, 41, 73] }, .int .i64 1, .int .i64 1, .int .i64 1, .slice (some ⟨w.heap.size + 1 + 1, 0, none⟩) 2 2, .string { data := #[107, 105, 110] }, .string { data := #[40, 41, 76, 79, 98, 106, 101, 99, 116, 59] }, .int .i64 4, .int .i64 1, .int .i64 1, .slice (some ⟨w.heap.size + 1 + 1 + 1, 0, none⟩) 2 2] 86)) w.heap.size 46 c0 := by
  have u0 : Upd w (w.alloc (.cells c0 46)) [] := (Upd.refl w []).alloc _
  have u1 : Upd (w.alloc (.cells c0 46)) ((w.alloc (.cells c0 46)).alloc (.cells #[.int .i64 38, .int .i64 0, .string { data := #[] }, .bool false, .string { data := #[] }, .string { data := #[] }, .string { data := #[] }] 90)) [] := (Upd.refl _ []).alloc _
  have u2 : Upd ((w.alloc (.cells c0 46)).alloc (.cells #[.int .i64 38, .int .i64 0, .string { data := #[] }, .bool false, .string { data := #[] }, .string { data := #[] }, .string { data := #[] }] 90)) (((w.alloc (.cells c0 46)).alloc (.cells #[.int .i64 38, .int .i64 0, .string { data := #[] }, .bool false, .string { data := #[] }, .string { data := #[] }, .string { data := #[] }] 90)).alloc (.cells #[.int .i64 1, .int .i64 7, .string { data := #[] }, .bool false, .string { data := #[] }, .string { data := #[] }, .string { data := #[] }, .int .i64 36, .int .i64 0, .string { data := #[] }, .bool false, .string { data := #[] }, .string { data := #[] }, .string { data := #[] }] 90)) [] := (Upd.refl _ []).alloc _
  have u3 : Upd (((w.alloc (.cells c0 46)).alloc (.cells #[.int .i64 38, .int .i64 0, .string { data := #[] }, .bool false, .string { data := #[] }, .string { data := #[] }, .string { data := #[] }] 90)).alloc (.cells #[.int .i64 1, .int .i64 7, .string { data := #[] }, .bool false, .string { data := #[] }, .string { data := #[] }, .string { data := #[] }, .int .i64 36, .int .i64 0, .string { data := #[] }, .bool false, .string { data := #[] }, .string { data := #[] }, .string { data := #[] }] 90)) ((((w.alloc (.cells c0 46)).alloc (.cells #[.int .i64 38, .int .i64 0, .string { data := #[] }, .bool false, .string { data := #[] }, .string { data := #[] }, .string { data := #[] }] 90)).alloc (.cells #[.int .i64 1, .int .i64 7, .string { data := #[] }, .bool false, .string { data := #[] }, .string { data := #[] }, .string { data := #[] }, .int .i64 36, .int .i64 0, .string { data := #[] }, .bool false, .string { data := #[] }, .string { data := #[] }, .string { data := #[] }] 90)).alloc (.cells #[.int .i64 4, .int .i64 0, .string { data := #[] }, .bool false, .string { data := #[] }, .string { data := #[] }, .string { data := #[] }, .int .i64 37, .int .i64 0, .string { data := #[] }, .bool false, .string { data := #[] }, .string { data := #[] }, .string { data := #[] }] 90)) [] := (Upd.refl _ []).alloc _
  have u4 : Upd ((((w.alloc (.cells c0 46)).alloc (.cells #[.int .i64 38, .int .i64 0, .string { data := #[] }, .bool false, .string { data := #[] }, .string { data := #[] }, .string { data := #[] }] 90)).alloc (.cells #[.int .i64 1, .int .i64 7, .string { data := #[] }, .bool false, .string { data := #[] }, .string { data := #[] }, .string { data := #[] }, .int .i64 36, .int .i64 0, .string { data := #[] }, .bool false, .string { data := #[] }, .string { data := #[] }, .string { data := #[] }] 90)).alloc (.cells #[.int .i64 4, .int .i64 0, .string { data := #[] }, .bool false, .string { data := #[] }, .string { data := #[] }, .string { data := #[] }, .int .i64 37, .int .i64 0, .string { data := #[] }, .bool false, .string { data := #[] }, .string { data := #[] }, .string { data := #[] }] 90)) (((((w.alloc (.cells c0 46)).alloc (.cells #[.int .i64 38, .int .i64 0, .string { data := #[] }, .bool false, .string { data := #[] }, .string { data := #[] }, .string { data := #[] }] 90)).alloc (.cells #[.int .i64 1, .int .i64 7, .string { data := #[] }, .bool false, .string { data := #[] }, .string { data := #[] }, .string { data := #[] }, .int .i64 36, .int .i64 0, .string { data := #[] }, .bool false, .string { data := #[] }, .string { data := #[] }, .string { data := #[] }] 90)).alloc (.cells #[.int .i64 4, .int .i64 0, .string { data := #[] }, .bool false, .string { data := #[] }, .string { data := #[] }, .string { data := #[] }, .int .i64 37, .int .i64 0, .string { data := #[] }, .bool false, .string { data := #[] }, .string { data := #[] }, .string { data := #[] }] 90)).alloc (.cells #[.string { data := #[60, 105, 110, 105, 116, 62] }, .string { data := #[40, 41, 86] }, .int .i64 1, .int .i64 1, .int .i64 0, .slice (some ⟨w.heap.size + 1, 0, none⟩) 1 1, .string { data := #[105, 100] }, .string { data := #[40, 41, 73] }, .int .i64 1, .int .i64 1, .int .i64 1, .slice (some ⟨w.heap.size + 1 + 1, 0, none⟩) 2 2, .string { data := #[107, 105, 110] }, .string { data := #[40, 41, 76, 79, 98, 106, 101, 99, 116, 59] }, .int .i64 4, .int .i64 1, .int .i64 1, .slice (some ⟨w.heap.size + 1 + 1 + 1, 0, none⟩) 2 2] 86)) [] := (Upd.refl _ []).alloc _
  have o1 := World.ownsRow_lit (base := 0) (e := 90) (size := 7) (w.alloc (.cells c0 46)) #[.int .i64 38, .int .i64 0, .string { data := #[] }, .bool false, .string { data := #[] }, .string { data := #[] }, .string { data := #[] }] 1 (Nat.zero_le _) (by unfold maxLen; omega) rfl
  have o2 := World.ownsRow_lit (base := 0) (e := 90) (size := 7) ((w.alloc (.cells c0 46)).alloc (.cells #[.int .i64 38, .int .i64 0, .string { data := #[] }, .bool false, .string { data := #[] }, .string { data := #[] }, .string { data := #[] }] 90)) #[.int .i64 1, .int .i64 7, .string { data := #[] }, .bool false, .string { data := #[] }, .string { data := #[] }, .string { data := #[] }, .int .i64 36, .int .i64 0, .string { data := #[] }, .bool false, .string { data := #[] }, .string { data := #[] }, .string { data := #[] }] 2 (Nat.zero_le _) (by unfold maxLen; omega) rfl
  have o3 := World.ownsRow_lit (base := 0) (e := 90) (size := 7) (((w.alloc (.cells c0 46)).alloc (.cells #[.int .i64 38, .int .i64 0, .string { data := #[] }, .bool false, .string { data := #[] }, .string { data := #[] }, .string { data := #[] }] 90)).alloc (.cells #[.int .i64 1, .int .i64 7, .string { data := #[] }, .bool false, .string { data := #[] }, .string { data := #[] }, .string { data := #[] }, .int .i64 36, .int .i64 0, .string { data := #[] }, .bool false, .string { data := #[] }, .string { data := #[] }, .string { data := #[] }] 90)) #[.int .i64 4, .int .i64 0, .string { data := #[] }, .bool false, .string { data := #[] }, .string { data := #[] }, .string { data := #[] }, .int .i64 37, .int .i64 0, .string { data := #[] }, .bool false, .string { data := #[] }, .string { data := #[] }, .string { data := #[] }] 2 (Nat.zero_le _) (by unfold maxLen; omega) rfl
  have o4 := World.ownsRow_lit (base := 0) (e := 86) (size := 6) ((((w.alloc (.cells c0 46)).alloc (.cells #[.int .i64 38, .int .i64 0, .string { data := #[] }, .bool false, .string { data := #[] }, .string { data := #[] }, .string { data := #[] }] 90)).alloc (.cells #[.int .i64 1, .int .i64 7, .string { data := #[] }, .bool false, .string { data := #[] }, .string { data := #[] }, .string { data := #[] }, .int .i64 36, .int .i64 0, .string { data := #[] }, .bool false, .string { data := #[] }, .string { data := #[] }, .string { data := #[] }] 90)).alloc (.cells #[.int .i64 4, .int .i64 0, .string { data := #[] }, .bool false, .string { data := #[] }, .string { data := #[] }, .string { data := #[] }, .int .i64 37, .int .i64 0, .string { data := #[] }, .bool false, .string { data := #[] }, .string { data := #[] }, .string { data := #[] }] 90)) #[.string { data := #[60, 105, 110, 105, 116, 62] }, .string { data := #[40, 41, 86] }, .int .i64 1, .int .i64 1, .int .i64 0, .slice (some ⟨w.heap.size + 1, 0, none⟩) 1 1, .string { data := #[105, 100] }, .string { data := #[40, 41, 73] }, .int .i64 1, .int .i64 1, .int .i64 1, .slice (some ⟨w.heap.size + 1 + 1, 0, none⟩) 2 2, .string { data := #[107, 105, 110] }, .string { data := #[40, 41, 76, 79, 98, 106, 101, 99, 116, 59] }, .int .i64 4, .int .i64 1, .int .i64 1, .slice (some ⟨w.heap.size + 1 + 1 + 1, 0, none⟩) 2 2] 3 (Nat.zero_le _) (by unfold maxLen; omega) rfl
  have s0 : (w.alloc (.cells c0 46)).heap.size = w.heap.size + 1 := by simp
  have s1 : ((w.alloc (.cells c0 46)).alloc (.cells #[.int .i64 38, .int .i64 0, .string { data := #[] }, .bool false, .string { data := #[] }, .string { data := #[] }, .string { data := #[] }] 90)).heap.size = w.heap.size + 1 + 1 := by simp
  have s2 : (((w.alloc (.cells c0 46)).alloc (.cells #[.int .i64 38, .int .i64 0, .string { data := #[] }, .bool false, .string { data := #[] }, .string { data := #[] }, .string { data := #[] }] 90)).alloc (.cells #[.int .i64 1, .int .i64 7, .string { data := #[] }, .bool false, .string { data := #[] }, .string { data := #[] }, .string { data := #[] }, .int .i64 36, .int .i64 0, .string { data := #[] }, .bool false, .string { data := #[] }, .string { data := #[] }, .string { data := #[] }] 90)).heap.size = w.heap.size + 1 + 1 + 1 := by simp
  have s3 : ((((w.alloc (.cells c0 46)).alloc (.cells #[.int .i64 38, .int .i64 0, .string { data := #[] }, .bool false, .string { data := #[] }, .string { data := #[] }, .string { data := #[] }] 90)).alloc (.cells #[.int .i64 1, .int .i64 7, .string { data := #[] }, .bool false, .string { data := #[] }, .string { data := #[] }, .string { data := #[] }, .int .i64 36, .int .i64 0, .string { data := #[] }, .bool false, .string { data := #[] }, .string { data := #[] }, .string { data := #[] }] 90)).alloc (.cells #[.int .i64 4, .int .i64 0, .string { data := #[] }, .bool false, .string { data := #[] }, .string { data := #[] }, .string { data := #[] }, .int .i64 37, .int .i64 0, .string { data := #[] }, .bool false, .string { data := #[] }, .string { data := #[] }, .string { data := #[] }] 90)).heap.size = w.heap.size + 1 + 1 + 1 + 1 := by simp
  rw [s0] at o1
  rw [s1] at o2
  rw [s2] at o3
  rw [s3] at o4
  have p1 := u4.own (u3.own (u2.own o1 (by simp)) (by simp)) (by simp)
  have p2 := u4.own (u3.own o2 (by simp)) (by simp)
  have p3 := u4.own o3 (by simp)
  refine ⟨⟨rfl, World.ownsRow_nil _ _ _ _, o4, fun i hi => ?_, ?_, ?_, fun i hi => ?_, fun i j hi hj hij => ?_⟩, (((u0.trans u1).trans u2).trans u3).trans u4, u4.blk (u3.blk (u2.blk (u1.blk (Blk.new w _ c0) (by simp)) (by simp)) (by simp)) (by simp)⟩
  · match i, hi with
    | 0, _ => exact p1
    | 1, _ => exact p2
    | 2, _ => exact p3
    | n + 3, h => exact absurd h (by simp [objCs])
  · intro k hk
    simp [Value.ownBlock] at hk
  · intro k hk
    simp [Value.ownBlock] at hk
    omega
  · match i, hi with
    | 0, _ => intro k hk; simp [objCs, Value.ownBlock] at hk; omega
    | 1, _ => intro k hk; simp [objCs, Value.ownBlock] at hk; omega
    | 2, _ => intro k hk; simp [objCs, Value.ownBlock] at hk; omega
    | n + 3, h => exact absurd h (by simp [objCs])
  · match i, hi, j, hj, hij with
    | 0, _, 0, _, h => exact absurd rfl h
    | 0, _, 1, _, _ => intro k hk; simp [objCs, Value.ownBlock] at hk ⊢; omega
    | 0, _, 2, _, _ => intro k hk; simp [objCs, Value.ownBlock] at hk ⊢; omega
    | 1, _, 0, _, _ => intro k hk; simp [objCs, Value.ownBlock] at hk ⊢; omega
    | 1, _, 1, _, h => exact absurd rfl h
    | 1, _, 2, _, _ => intro k hk; simp [objCs, Value.ownBlock] at hk ⊢; omega
    | 2, _, 0, _, _ => intro k hk; simp [objCs, Value.ownBlock] at hk ⊢; omega
    | 2, _, 1, _, _ => intro k hk; simp [objCs, Value.ownBlock] at hk ⊢; omega
    | 2, _, 2, _, h => exact absurd rfl h
    | n + 3, h, _, _, _ => exact absurd h (by simp [objCs])
    | 0, _, n + 3, h, _ => exact absurd h (by simp [objCs])
    | 1, _, n + 3, h, _ => exact absurd h (by simp [objCs])
    | 2, _, n + 3, h, _ => exact absurd h (by simp [objCs])
set_option maxHeartbeats 4000000 in
set_option maxRecDepth 100000 in
theorem object_any (w : World) : Calls Tryz.prog 34 #[] w fun e w' => ∃ vm cs, e = .returned (.agg #[.string (bs objR.nm), .string (bs objR.sup), .slice none 0 0, .int .i64 objR.fl, .int .i64 objR.ld, vm]) ∧ Lists w' w.heap.size objR (.slice none 0 0) vm cs ∧ Upd w w' [] := by
  go_enter Tryz.func34, Tryz.ntmps34
  go_wp2
  have hO := object_lists w #[.string { data := #[79, 98, 106, 101, 99, 116] }, .string { data := #[] }, .slice none 0 0, .int .i64 33, .int .i64 0, .slice (some ⟨w.heap.size + 1 + 1 + 1 + 1, 0, none⟩) 3 3]
  revert hO
  generalize (((((w.alloc (.cells #[.string { data := #[79, 98, 106, 101, 99, 116] }, .string { data := #[] }, .slice none 0 0, .int .i64 33, .int .i64 0, .slice (some ⟨w.heap.size + 1 + 1 + 1 + 1, 0, none⟩) 3 3] 46)).alloc (.cells #[.int .i64 38, .int .i64 0, .string { data := #[] }, .bool false, .string { data := #[] }, .string { data := #[] }, .string { data := #[] }] 90)).alloc (.cells #[.int .i64 1, .int .i64 7, .string { data := #[] }, .bool false, .string { data := #[] }, .string { data := #[] }, .string { data := #[] }, .int .i64 36, .int .i64 0, .string { data := #[] }, .bool false, .string { data := #[] }, .string { data := #[] }, .string { data := #[] }] 90)).alloc (.cells #[.int .i64 4, .int .i64 0, .string { data := #[] }, .bool false, .string { data := #[] }, .string { data := #[] }, .string { data := #[] }, .int .i64 37, .int .i64 0, .string { data := #[] }, .bool false, .string { data := #[] }, .string { data := #[] }, .string { data := #[] }] 90)).alloc (.cells #[.string { data := #[60, 105, 110, 105, 116, 62] }, .string { data := #[40, 41, 86] }, .int .i64 1, .int .i64 1, .int .i64 0, .slice (some ⟨w.heap.size + 1, 0, none⟩) 1 1, .string { data := #[105, 100] }, .string { data := #[40, 41, 73] }, .int .i64 1, .int .i64 1, .int .i64 1, .slice (some ⟨w.heap.size + 1 + 1, 0, none⟩) 2 2, .string { data := #[107, 105, 110] }, .string { data := #[40, 41, 76, 79, 98, 106, 101, 99, 116, 59] }, .int .i64 4, .int .i64 1, .int .i64 1, .slice (some ⟨w.heap.size + 1 + 1 + 1, 0, none⟩) 2 2] 86)) = we
  rintro ⟨hL, hU, hB⟩
  obtain ⟨uf, huf⟩ := undClass
  exact bodyPost_ret (v := .agg #[.string { data := #[79, 98, 106, 101, 99, 116] }, .string { data := #[] }, .slice none 0 0, .int .i64 33, .int .i64 0, .slice (some ⟨w.heap.size + 1 + 1 + 1 + 1, 0, none⟩) 3 3]) (results_cell_row Tryz.results34 _ _ w.heap.size 46 #[.string { data := #[79, 98, 106, 101, 99, 116] }, .string { data := #[] }, .slice none 0 0, .int .i64 33, .int .i64 0, .slice (some ⟨w.heap.size + 1 + 1 + 1 + 1, 0, none⟩) 3 3] (0, 0) (.struct uf) rfl hB huf rfl sizeClass) rfl ⟨_, _, rfl, hL, hU⟩
theorem HWo.nil {w : World} : HWo ((w.alloc (.map #[] 0)).alloc (.cells #[.slice none 0 0, .map (some w.heap.size)] 77)) (w.heap.size + 1) [] [w.heap.size + 1, w.heap.size] none 0 w.heap.size 0 (.map []) [] := by
  have hB := Blk.new_at (w := w.alloc (.map #[] 0)) (t := 77) (cs := #[.slice none 0 0, .map (some w.heap.size)]) (g := w.heap.size + 1) (by simp)
  refine ⟨⟨hB, World.ownsRow_nil _ _ _ _⟩, rfl, (World.ownsMap_made w Tryz.prog 9 (plainElem Tryz.prog 3)).alloc _, Nat.le_refl _, Names.nil, fun k h => absurd h (by simp), by simp, by simp, fun k hk => by simp [Value.ob, Value.ownBlock] at hk, fun k hk => ?_, Good.nil⟩
  simp at hk ⊢
  omega
theorem obj_kept : objR.kept := by
  refine ⟨⟨by decide, by decide, fun x h => by simp [objR] at h, by simp [rng, objR], by simp [rng, objR], fun m hm => ?_⟩, ⟨by decide, by decide, fun m hm => ?_, by decide, fun h => by simp [objR] at h⟩, rfl⟩
  · simp only [objR, List.mem_cons, List.not_mem_nil, or_false] at hm
    rcases hm with rfl | rfl | rfl
    all_goals
      refine ⟨by decide, by decide, by simp [rng], by simp [rng], by simp [rng], fun i hi => ?_⟩
      simp only [List.mem_cons, List.not_mem_nil, or_false] at hi
    · subst hi; exact ⟨by simp [InstL.fit, RefL.fit, noRefL], by simp [InstL.num]⟩
    · rcases hi with rfl | rfl <;> exact ⟨by simp [InstL.fit, RefL.fit, noRefL], by simp [InstL.num]⟩
    · rcases hi with rfl | rfl <;> exact ⟨by simp [InstL.fit, RefL.fit, noRefL], by simp [InstL.num]⟩
  · simp only [objR, List.mem_cons, List.not_mem_nil, or_false] at hm
    rcases hm with rfl | rfl | rfl <;> decide
theorem bare_kept {r : RdS} (h1 : r.nm.length ≤ 40000) (h2 : r.sup.length ≤ 40000) (h3 : rng r.fl) (h4 : rng r.ld) (h5 : r.ifs = []) (h6 : r.ms = []) (h7 : r.st = 8) : r.kept :=
  ⟨⟨h1, h2, by rw [h5]; simp, h3, h4, by rw [h6]; simp⟩, ⟨by rw [h5]; simp, by rw [h6]; simp, by rw [h6]; simp, by omega, by omega⟩, h7⟩
/-- The entries that each world begins with. -/
def baseE : List Ent := [⟨objR, -1, 0, []⟩, ⟨cloR, 0, 1, []⟩, ⟨serR, 0, 1, []⟩]
theorem rs_base : rsOf baseE = baseW := rfl
theorem Upd.fresh {a w w' : World} {F : List Nat} (h : Upd a w []) (u : Upd w w' F) (hF : ∀ k, k ∈ F → a.heap.size ≤ k) : Upd a w' [] :=
  ⟨u.os.trans h.os, u.tape.trans h.tape, u.output.trans h.output, Nat.le_trans h.size u.size, fun b hb _ => (u.block b (Nat.lt_of_lt_of_le hb h.size) (fun hm => by have := hF b hm; omega)).trans (h.block b hb (by simp))⟩
/-- New, while the two interfaces are laid. -/
structure NewI (w : World) (b mb rb k : Nat) (wr : World) : Prop where
  ex : ∃ S, HW wr b mb (baseE.take (k + 1)) S ∧ rb ∉ S ∧ ∀ q, q ∈ S → w.heap.size ≤ q
  row : Blk wr rb 9 #[.string (bs cloR.nm), .string (bs serR.nm)]
  upd : Upd w wr []
theorem clo_kept : cloR.kept := bare_kept (by decide) (by decide) (by simp [rng, cloR]) (by simp [rng, cloR]) rfl rfl rfl
theorem ser_kept : serR.kept := bare_kept (by decide) (by decide) (by simp [rng, serR]) (by simp [rng, serR]) rfl rfl rfl
theorem NewI.put {w : World} {b mb rb k : Nat} {wr : World} (h : NewI w b mb rb k wr) (hk : k < 2) (r : RdS) (hr : [cloR, serR][k]? = some r) :
    Calls Tryz.prog 33 #[.pointer (some ⟨b, 0, none⟩), .agg #[.string (bs r.nm), .string ⟨#[79, 98, 106, 101, 99, 116]⟩, .slice none 0 0, .int .i64 1537, .int .i64 0, .slice none 0 0], .int .i64 0, .slice none 0 0] wr fun e w' => ∃ v, e = .returned v ∧ NewI w b mb rb (k + 1) w' := by
  obtain ⟨S, hS, hrb, hge⟩ := h.ex
  have hrlt := h.row.lt
  have key : ∀ r : RdS, r.sup = [79, 98, 106, 101, 99, 116] → r.fl = 1537 → r.ld = 0 → r.ifs = [] → r.ms = [] → r.kept → r.nm ∉ (baseE.take (k + 1)).map (fun e => e.r.nm) → baseE.take (k + 1) ++ [putOf (baseE.take (k + 1)) r 0 []] = baseE.take (k + 1 + 1) →
      Calls Tryz.prog 33 #[.pointer (some ⟨b, 0, none⟩), .agg #[.string (bs r.nm), .string ⟨#[79, 98, 106, 101, 99, 116]⟩, .slice none 0 0, .int .i64 1537, .int .i64 0, .slice none 0 0], .int .i64 0, .slice none 0 0] wr fun e w' => ∃ v, e = .returned v ∧ NewI w b mb rb (k + 1) w' := by
    intro r h1 h2 h3 h4 h5 h6 h7 h8
    have hlen : (baseE.take (k + 1)).length = k + 1 := by rw [List.length_take]; simp [baseE]; omega
    have := hS.put r (.slice none 0 0) (.slice none 0 0) [] (Lists.start wr 0 r h4 h5) h6 0 (by rw [hlen]; omega) none 0 [] (fun h => absurd rfl h) (by simp) (by simp) (by simp) h7 (by rw [hlen]; omega)
    rw [h1, h2, h3] at this
    refine this.mono ?_
    rintro e w' ⟨he, S', g1, g2, g3⟩
    rw [h8] at g1
    refine ⟨_, he, ⟨S', g1, fun hm => ?_, fun q hq => ?_⟩, g2.blk h.row hrb, h.upd.fresh g2 hge⟩
    · rcases g3 rb hm with hm | hm | hm
      · exact hrb hm
      · simp [listF, Value.ob, Value.ownBlock] at hm
      · omega
    · rcases g3 q hq with hm | hm | hm
      · exact hge q hm
      · simp [listF, Value.ob, Value.ownBlock] at hm
      · exact Nat.le_trans h.upd.size hm
  have hk2 : k = 0 ∨ k = 1 := by omega
  rcases hk2 with rfl | rfl
  · cases hr
    exact key cloR rfl rfl rfl rfl rfl clo_kept (by decide) rfl
  · cases hr
    exact key serR rfl rfl rfl rfl rfl ser_kept (by decide) rfl
set_option maxHeartbeats 8000000 in
set_option maxRecDepth 100000 in
theorem new_any (w : World) : Calls Tryz.prog 14 #[] w fun e w' => ∃ b mb S, e = .returned (.pointer (some ⟨b, 0, none⟩)) ∧ HW w' b mb baseE S ∧ Upd w w' [] ∧ ∀ k, k ∈ S → w.heap.size ≤ k := by
  have H0 := hid (show HW _ _ _ _ _ from ⟨_, _, _, _, _, HWo.nil (w := w)⟩)
  have HU0 := hid (((Upd.refl w []).alloc (.map #[] 0)).alloc (.cells #[.slice none 0 0, .map (some w.heap.size)] 77))
  have hmk := run_makeMap (P := Tryz.prog) 74 w
  go_enter Tryz.func14, Tryz.ntmps14
  go_wp2_with fail
  revert H0 HU0
  generalize (w.alloc (.map #[] 0)).alloc (.cells #[.slice none 0 0, .map (some w.heap.size)] 77) = w1
  intro H0 HU0
  refine (object_any w1).mono ?_
  rintro e w2 ⟨vm, cs, rfl, hL, hU⟩
  have H1 := hid (H0.out.upd hU)
  have HU1 := hid (HU0.out.trans hU)
  have HL := hid hL
  have hge1 := hL.ge
  have hw1 := HU0.out.size
  clear hU hL H0 HU0 hmk
  go_wp2_with fail
  refine (H1.out.put objR (.slice none 0 0) vm cs (Lists.mono HL.out (Nat.zero_le _)) obj_kept (-1) (by simp) none 0 [] (fun h => absurd rfl h) (by simp) (by simp) (by simp) (by simp) (by simp)).mono ?_
  rintro e w3 ⟨rfl, S, h1, h2, h3⟩
  have hN : NewI w (w.heap.size + 1) w.heap.size w3.heap.size 0 (w3.alloc (.cells #[.string (bs cloR.nm), .string (bs serR.nm)] 9)) := by
    have hS : ∀ q, q ∈ S → w.heap.size ≤ q := fun q hq => by
      have hz := HU1.out.size
      rcases h3 q hq with hm | hm | hm
      · simp at hm; omega
      · have := hge1 q hm; omega
      · omega
    refine ⟨⟨S, h1.upd ((Upd.refl _ []).alloc _), fun hm => ?_, hS⟩, Blk.new _ _ _, (HU1.out.fresh h2 (fun k hk => by simp at hk; omega)).alloc _⟩
    have := h1.lt _ hm
    omega
  have HN := hid hN
  clear hN h1 h2 h3 HL hge1 H1 HU1
  go_wp2
  go_loopw [12] (fun t wr => ∃ k : Nat, t = .int .i64 k ∧ k ≤ 2 ∧ Hid (NewI w (w.heap.size + 1) w.heap.size w3.heap.size k wr)) (fun t _ => 2 - (intOf t).toNat)
  case atStart => exact ⟨0, rfl, by omega, HN⟩
  case round =>
    obtain ⟨k, rfl, hk, HNk⟩ := hrel
    clear HN
    have hk3 : k = 0 ∨ k = 1 ∨ k = 2 := by omega
    rcases hk3 with rfl | rfl | rfl
    · have x := (HNk.out.row.cell 0).trans (show _ = some (.string (bs cloR.nm)) from rfl)
      have hrl := HNk.out.row.lt
      have Hp := hid (HNk.out.put (by omega) cloR rfl)
      clear HNk
      go_wp2_with fail
      refine Hp.out.mono ?_
      rintro e w4 ⟨v, rfl, hN⟩
      have HN4 := hid hN
      clear hN Hp
      go_wp2
      go_roundw
      case rel => exact ⟨0 + 1, (by go_num), by omega, HN4⟩
      case measure => simp [intOf]
    · have x := (HNk.out.row.cell 1).trans (show _ = some (.string (bs serR.nm)) from rfl)
      have hrl := HNk.out.row.lt
      have Hp := hid (HNk.out.put (by omega) serR rfl)
      clear HNk
      go_wp2_with fail
      refine Hp.out.mono ?_
      rintro e w4 ⟨v, rfl, hN⟩
      have HN4 := hid hN
      clear hN Hp
      go_wp2
      go_roundw
      case rel => exact ⟨1 + 1, (by go_num), by omega, HN4⟩
      case measure => simp [intOf]
    · obtain ⟨S, g1, -, g3⟩ := HNk.out.ex
      have HS := hid g1
      have HU := hid HNk.out.upd
      have Hge := hid g3
      clear g1 g3 HNk
      go_wp2
      go_ret
      exact ⟨_, _, S, rfl, HS.out, HU.out, Hge.out⟩
end Go.Proofs.YtfpdeiefkimaaaaGreatDoor
/-
  The pieces of a text, each with the byte that ends it: plain laws. (Layer 25.)
-/
set_option linter.unusedSimpArgs false
set_option linter.unusedVariables false
namespace Go.Proofs.YtfpdeiefkimaaaaGreatDoor
open Go.RowKit

/-- The pieces of a text, each with the byte that ends it. -/
def piecesL (c : UInt8) : List UInt8 → List (List UInt8)
  | [] => [[]]
  | x :: t => if x = c then [x] :: piecesL c t else match piecesL c t with
    | [] => [[x]]
    | p :: r => (x :: p) :: r
theorem pieces_ne (c : UInt8) (l : List UInt8) : piecesL c l ≠ [] := by
  cases l with
  | nil => simp [piecesL]
  | cons x t =>
    unfold piecesL
    split
    · simp
    · split <;> simp
theorem pieces_flat (c : UInt8) : ∀ l : List UInt8, (piecesL c l).flatten = l
  | [] => rfl
  | x :: t => by
    have ih := pieces_flat c t
    unfold piecesL
    split
    · rw [List.flatten_cons, ih]; rfl
    · cases h : piecesL c t with
      | nil => exact absurd h (pieces_ne c t)
      | cons p r =>
        rw [h] at ih
        simp only [List.flatten_cons, List.cons_append] at ih ⊢
        rw [ih]
theorem pieces_none (c : UInt8) : ∀ l : List UInt8, c ∉ l → piecesL c l = [l]
  | [], _ => rfl
  | x :: t, h => by
    simp only [List.mem_cons, not_or] at h
    unfold piecesL
    rw [if_neg (fun e => h.1 e.symm), pieces_none c t h.2]
theorem pieces_cut (c : UInt8) : ∀ (a b : List UInt8), c ∉ a → piecesL c (a ++ c :: b) = (a ++ [c]) :: piecesL c b
  | [], b, _ => by
    show piecesL c (c :: b) = _
    rw [piecesL, if_pos rfl]
    rfl
  | x :: t, b, h => by
    simp only [List.mem_cons, not_or] at h
    show piecesL c (x :: (t ++ c :: b)) = _
    rw [piecesL, if_neg (fun e => h.1 e.symm), pieces_cut c t b h.2]
    rfl
end Go.Proofs.YtfpdeiefkimaaaaGreatDoor
/-
  Worlds as lists of classes; what Load makes of a text: plain laws. (Layer 25.)
-/
set_option linter.unusedSimpArgs false
set_option linter.unusedVariables false
namespace Go.Proofs.YtfpdeiefkimaaaaGreatDoor
open Go.RowKit

/-- A world while a text is loaded: its classes, where the class begins, how many lines there were, the text so far. -/
structure LdS where
  ws : List RdS
  bg : Nat
  n : Nat
  text : List UInt8
section
variable (D : List RdS → RdS → Int)
/-- A class's text is taken: D says how the class is received (0: it is). -/
def takeL (s : LdS) : List RdS ⊕ (Nat × Int) := match textO s.text with
  | .inr x => .inr (s.bg + max x.1 1 - 1, x.2)
  | .inl r => if D s.ws r = 0 then .inl (s.ws ++ [r]) else .inr (s.bg, D s.ws r)
def endLine : List UInt8 := [101, 110, 100, 10]
def pieceL (s : LdS) (p : List UInt8) : LdS ⊕ (Nat × Int) :=
  if p = endLine then match takeL D ⟨s.ws, s.bg, s.n + 1, s.text ++ p⟩ with
    | .inl ws => .inl ⟨ws, s.n + 2, s.n + 1, []⟩
    | .inr x => .inr x
  else .inl ⟨s.ws, s.bg, s.n + 1, s.text ++ p⟩
def loadFrom : LdS → List (List UInt8) → LdS ⊕ (Nat × Int)
  | s, [] => .inl s
  | s, p :: t => match pieceL D s p with
    | .inl s' => loadFrom s' t
    | .inr x => .inr x
/-- What Load makes of a text, over the classes that each world begins with. -/
def loadL (w0 : List RdS) (l : List UInt8) : List RdS ⊕ (Nat × Int) := match loadFrom D ⟨w0, 1, 0, []⟩ (piecesL 10 l) with
  | .inr x => .inr x
  | .inl s => if s.text = [] then .inl s.ws else takeL D s
/-- The text of a world's own classes. -/
def worldT (ws : List RdS) : List UInt8 := ws.flatMap fun r => printL (clsS r)
theorem worldT_snoc (ws : List RdS) (r : RdS) : worldT (ws ++ [r]) = worldT ws ++ printL (clsS r) := by simp [worldT]
theorem take_text {s : LdS} {ws : List RdS} (h : takeL D s = .inl ws) : ∃ r, ws = s.ws ++ [r] ∧ printL (clsS r) = s.text := by
  unfold takeL at h
  cases ht : textO s.text with
  | inr x => rw [ht] at h; cases h
  | inl r =>
    rw [ht] at h
    simp only at h
    split at h
    · cases h
      exact ⟨r, rfl, (text_back ht).1⟩
    · cases h
theorem from_text (w0 : List RdS) : ∀ (ps : List (List UInt8)) (s s' : LdS) (done : List RdS), s.ws = w0 ++ done → loadFrom D s ps = .inl s' → ∃ more, s'.ws = w0 ++ more ∧ worldT more ++ s'.text = worldT done ++ s.text ++ ps.flatten
  | [], s, s', done, hs, h => by
    cases h
    exact ⟨done, hs, by simp⟩
  | p :: t, s, s', done, hs, h => by
    unfold loadFrom at h
    cases hp : pieceL D s p with
    | inr x => rw [hp] at h; cases h
    | inl s1 =>
      rw [hp] at h
      simp only at h
      unfold pieceL at hp
      split at hp
      · split at hp
        · rename_i ws htk
          cases hp
          obtain ⟨r, rfl, hr⟩ := take_text D htk
          obtain ⟨more, h1, h2⟩ := from_text w0 t _ s' (done ++ [r]) (by simp [hs]) h
          refine ⟨more, h1, ?_⟩
          rw [h2, worldT_snoc, hr]
          simp
        · cases hp
      · cases hp
        obtain ⟨more, h1, h2⟩ := from_text w0 t ⟨s.ws, s.bg, s.n + 1, s.text ++ p⟩ s' done hs h
        refine ⟨more, h1, ?_⟩
        rw [h2]
        simp
/-- A text that Load takes is written again as it was. -/
theorem load_text {w0 : List RdS} {l : List UInt8} {ws : List RdS} (h : loadL D w0 l = .inl ws) : ∃ more, ws = w0 ++ more ∧ worldT more = l := by
  unfold loadL at h
  split at h
  · cases h
  · rename_i s hs
    obtain ⟨more, h1, h2⟩ := from_text D w0 (piecesL 10 l) ⟨w0, 1, 0, []⟩ s [] (by simp) hs
    rw [pieces_flat] at h2
    simp only [worldT, List.flatMap_nil, List.nil_append] at h2
    split at h
    · rename_i he
      cases h
      exact ⟨more, h1, by rw [he, List.append_nil] at h2; exact h2⟩
    · obtain ⟨r, rfl, hr⟩ := take_text D h
      refine ⟨more ++ [r], by rw [h1, List.append_assoc], ?_⟩
      rw [worldT_snoc, hr]
      exact h2
/-- Two texts that Load takes are the same just if the worlds are. -/
theorem load_same {w0 : List RdS} {l m : List UInt8} {v w : List RdS} (h : loadL D w0 l = .inl v) (k : loadL D w0 m = .inl w) : v = w ↔ l = m := by
  constructor
  · rintro rfl
    obtain ⟨a, h1, h2⟩ := load_text D h
    obtain ⟨b, k1, k2⟩ := load_text D k
    have : a = b := List.append_cancel_left (h1.symm.trans k1)
    rw [← h2, ← k2, this]
  · rintro rfl
    rw [h] at k
    exact Sum.inl.inj k
/-- The line at fault is a line. -/
theorem take_line {s : LdS} {n : Nat} {e : Int} (hb : 1 ≤ s.bg) (h : takeL D s = .inr (n, e)) : 1 ≤ n ∧ e ≠ 0 := by
  unfold takeL at h
  cases ht : textO s.text with
  | inr x =>
    rw [ht] at h
    obtain ⟨a, b⟩ := x
    simp only [Sum.inr.injEq, Prod.mk.injEq] at h
    have := text_fault ht
    omega
  | inl r =>
    rw [ht] at h
    simp only at h
    split at h
    · cases h
    · rename_i hd
      simp only [Sum.inr.injEq, Prod.mk.injEq] at h
      exact ⟨by omega, by rw [← h.2]; exact hd⟩
theorem from_line : ∀ (ps : List (List UInt8)) (s : LdS) (n : Nat) (e : Int), 1 ≤ s.bg → loadFrom D s ps = .inr (n, e) → 1 ≤ n ∧ e ≠ 0
  | [], s, n, e, _, h => by cases h
  | p :: t, s, n, e, hb, h => by
    unfold loadFrom at h
    cases hp : pieceL D s p with
    | inr x =>
      rw [hp] at h
      simp only [Sum.inr.injEq] at h
      subst h
      unfold pieceL at hp
      split at hp
      · split at hp
        · cases hp
        · rename_i y hy
          cases hp
          exact take_line D (by simpa using hb) hy
      · cases hp
    | inl s1 =>
      rw [hp] at h
      refine from_line t s1 n e ?_ h
      unfold pieceL at hp
      split at hp
      · split at hp
        · cases hp
          show 1 ≤ s.n + 2
          omega
        · cases hp
      · cases hp
        exact hb
theorem from_bg : ∀ (ps : List (List UInt8)) (s s' : LdS), 1 ≤ s.bg → loadFrom D s ps = .inl s' → 1 ≤ s'.bg
  | [], s, s', hb, h => by cases h; exact hb
  | p :: t, s, s', hb, h => by
    unfold loadFrom at h
    cases hp : pieceL D s p with
    | inr x => rw [hp] at h; cases h
    | inl s1 =>
      rw [hp] at h
      refine from_bg t s1 s' ?_ h
      unfold pieceL at hp
      split at hp
      · split at hp
        · cases hp
          show 1 ≤ s.n + 2
          omega
        · cases hp
      · cases hp
        exact hb
theorem load_line {w0 : List RdS} {l : List UInt8} {n : Nat} {e : Int} (h : loadL D w0 l = .inr (n, e)) : 1 ≤ n ∧ e ≠ 0 := by
  unfold loadL at h
  split at h
  · rename_i x hx
    cases h
    exact from_line D _ _ n e (by simp) hx
  · rename_i s hs
    split at h
    · cases h
    · exact take_line D (from_bg D _ _ _ (by simp) hs) h
end
end Go.Proofs.YtfpdeiefkimaaaaGreatDoor
/-
  Layer 6 (hier): how a class is received: 0, or the error; plain.
-/
set_option linter.unusedSimpArgs false
set_option linter.unusedVariables false
namespace Go.Proofs.YtfpdeiefkimaaaaGreatDoor
open Go.RowKit

/-- How a class is received: 0, or the error. -/
def defD (ws : List RdS) (c : RdS) : Int :=
  if checkB (clsS c) = false then 1 else if 300 ≤ ws.length then 5 else if ws.any (fun r => decide (r.nm = c.nm)) then 25 else
  if (aboveL ws c c.sup false).2 = 0 then ifsE ws c c.ifs else (aboveL ws c c.sup false).2
end Go.Proofs.YtfpdeiefkimaaaaGreatDoor
/-
  Define: a class arrives; walked. (Layer 6.)
-/
set_option linter.unusedSimpArgs false
set_option linter.unusedVariables false
namespace Go.Proofs.YtfpdeiefkimaaaaGreatDoor
open Go.RowKit Go.WideShapes Go.Maps Go.WideMaps

theorem rd_same {r : RdS} {vi vm : Value} {cs : List Value} (h : r.ms.length = cs.length) (hs : r.st = 8) : rdOf (clsOf r vi vm cs) = r := by
  rw [rd_clsOf r vi vm cs h, ← hs]
theorem clsOf_code {r : RdS} {vi vm : Value} {cs : List Value} {k : Nat} (h : r.wf k) : ∀ m, m ∈ (clsOf r vi vm cs).ms → m.code.length ≤ k := by
  intro m hm
  obtain ⟨i, hi, rfl⟩ := List.getElem_of_mem (show m ∈ List.zipWith methOf r.ms cs from hm)
  have hi' : i < r.ms.length := by simp at hi; omega
  rw [List.getElem_zipWith]
  exact h.code _ (List.getElem_mem hi')
/-- Check of a class in memory of its own. -/
theorem check_lists {w : World} {n0 : Nat} {r : RdS} {vi vm : Value} {cs : List Value} (h : Lists w n0 r vi vm cs) (hk : r.kept) (hm : MaxLenAt w) :
    Calls Tryz.prog 35 #[.agg #[.string (bs r.nm), .string (bs r.sup), vi, .int .i64 r.fl, .int .i64 r.ld, vm]] w fun e w' => e = .returned (.int .i64 (errIf (checkB (clsS r)))) ∧ Upd w w' [] := by
  have := check5_any (clsOf r vi vm cs) w (h.fit hk.fine hk.wf (by omega)) hm
  rw [h.val, check_same r vi vm cs h.len] at this
  exact this
/-- copied, of a class in memory of its own. -/
theorem copied_lists {w : World} {n0 : Nat} {r : RdS} {vi vm : Value} {cs : List Value} (h : Lists w n0 r vi vm cs) (hk : r.kept) :
    Calls Tryz.prog 37 #[.agg #[.string (bs r.nm), .string (bs r.sup), vi, .int .i64 r.fl, .int .i64 r.ld, vm]] w fun e w' => ∃ vi' vm' cs', e = .returned (.agg #[.string (bs r.nm), .string (bs r.sup), vi', .int .i64 r.fl, .int .i64 r.ld, vm']) ∧ Lists w' w.heap.size r vi' vm' cs' ∧ Upd w w' [] := by
  have hw := hk.wf
  have := copied_any (clsOf r vi vm cs) w (h.fit hk.fine hk.wf (by omega)) (by show r.ifs.length ≤ _; have := hw.ifs; omega) (by show (List.zipWith methOf r.ms cs).length ≤ _; rw [List.length_zipWith]; have := hw.ms; omega) (fun m hm => Nat.le_trans (clsOf_code hw m hm) (by omega))
  rw [h.val, rd_same h.len hk.st] at this
  exact this
/-- The entry of a class that arrives. -/
def defE (es : List Ent) (r : RdS) : Ent := putOf es r ((aboveL (rsOf es) r r.sup false).1 : Int) (r.ifs.map fun x => (aboveL (rsOf es) r x true).1)
theorem above_lt {ws : List RdS} {c : RdS} {nm : List UInt8} {want : Bool} (h : (aboveL ws c nm want).2 = 0) : (aboveL ws c nm want).1 < ws.length := by
  unfold aboveL at h ⊢
  cases hf : ws.findIdx? (fun r => decide (r.nm = nm)) with
  | none => rw [hf] at h; cases h
  | some k =>
    obtain ⟨hk, -, -⟩ := List.findIdx?_eq_some_iff_getElem.1 hf
    rw [hf] at h
    simp only at h ⊢
    rw [List.getElem?_eq_getElem hk] at h ⊢
    simp only at h ⊢
    split at h
    · cases h
    · split at h
      · cases h
      · rw [if_neg (by assumption), if_neg (by assumption)]
        exact hk
theorem ifsE_zero {ws : List RdS} {c : RdS} : ∀ {l : List (List UInt8)}, (∀ i (h : i < l.length), (aboveL ws c l[i] true).2 = 0) → ifsE ws c l = 0
  | [], _ => rfl
  | x :: t, h => by
    unfold ifsE
    rw [if_pos (show (aboveL ws c x true).2 = 0 from h 0 (by simp))]
    exact ifsE_zero (fun i hi => by have := h (i + 1) (Nat.succ_lt_succ hi); rwa [List.getElem_cons_succ] at this)
theorem ifsE_bad {ws : List RdS} {c : RdS} : ∀ {l : List (List UInt8)} {k : Nat} (hk : k < l.length), (∀ i (h : i < l.length), i < k → (aboveL ws c l[i] true).2 = 0) → (aboveL ws c l[k] true).2 ≠ 0 → ifsE ws c l = (aboveL ws c l[k] true).2
  | [], k, hk, _, _ => absurd hk (by simp)
  | x :: t, 0, _, _, hn => by
    unfold ifsE
    rw [if_neg (by simpa using hn)]
    rfl
  | x :: t, k + 1, hk, h, hn => by
    unfold ifsE
    rw [if_pos (show (aboveL ws c x true).2 = 0 from h 0 (by simp) (by omega))]
    exact ifsE_bad (by simpa using hk) (fun i hi hik => by have := h (i + 1) (Nat.succ_lt_succ hi) (by omega); rwa [List.getElem_cons_succ] at this) (by simpa using hn)
theorem ask_int {w : World} {P : Program} {k e t : TypeId} {q : IntKind} {b n : Nat} {D : DataW Unit} (h : w.ownsMap P k (plainElem P e) b n D) (K : Keyed P k) (ht : P.underlying t = some (.map k e)) (he : P.underlying e = some (.int q)) (hz : (zeroValue e).run P w = .ok (.int q 0) w) {key : Value} {kl : Lit} (hkey : keyOf P k key = some kl) :
    ∃ c, D.atKey kl (.lit (.int q 0)) = .lit (.int q c) := by
  obtain ⟨v, ps, -, hv⟩ := h.look_ok K ht hz (plainElem_int (H := Unit) he (by cases q <;> decide)) hkey
  obtain ⟨c, rfl, hc, -⟩ := plainElem_int_inv he hv
  exact ⟨c, congrArg Prod.fst hc⟩
end Go.Proofs.YtfpdeiefkimaaaaGreatDoor
/-
  Define, walked. (Layer 6.)
-/
set_option linter.unusedSimpArgs false
set_option linter.unusedVariables false
namespace Go.Proofs.YtfpdeiefkimaaaaGreatDoor
open Go.RowKit Go.WideShapes Go.Maps Go.WideMaps Go.Sort

/-- What Define leaves. -/
def defPost (w : World) (b mb : Nat) (es : List Ent) (S : List Nat) (r : RdS) (F : List Nat) (e : Ending) (w' : World) : Prop :=
  if defD (rsOf es) r = 0 then e = .returned (.tuple #[.int .i64 es.length, .int .i64 0]) ∧ ∃ S', HW w' b mb (es ++ [defE es r]) S' ∧ Upd w w' S ∧ ∀ k, k ∈ S' → k ∈ S ∨ w.heap.size ≤ k
  else e = .returned (.tuple #[.int .i64 0, .int .i64 (defD (rsOf es) r)]) ∧ Upd w w' []
theorem defD_1 {ws : List RdS} {r : RdS} (h : checkB (clsS r) = false) : defD ws r = 1 := by unfold defD; rw [if_pos h]
theorem defD_5 {ws : List RdS} {r : RdS} (h : checkB (clsS r) = true) (h2 : 300 ≤ ws.length) : defD ws r = 5 := by unfold defD; rw [if_neg (by rw [h]; simp), if_pos h2]
theorem defD_25 {ws : List RdS} {r : RdS} (h : checkB (clsS r) = true) (h2 : ¬ 300 ≤ ws.length) (h3 : r.nm ∈ ws.map RdS.nm) : defD ws r = 25 := by
  unfold defD
  rw [if_neg (by rw [h]; simp), if_neg h2, if_pos]
  rw [List.any_eq_true]
  obtain ⟨x, hx, e⟩ := List.mem_map.1 h3
  exact ⟨x, hx, by simpa using e⟩
theorem defD_ab {ws : List RdS} {r : RdS} (h : checkB (clsS r) = true) (h2 : ¬ 300 ≤ ws.length) (h3 : r.nm ∉ ws.map RdS.nm) : defD ws r = if (aboveL ws r r.sup false).2 = 0 then ifsE ws r r.ifs else (aboveL ws r r.sup false).2 := by
  unfold defD
  rw [if_neg (by rw [h]; simp), if_neg h2, if_neg]
  rw [List.any_eq_true]
  rintro ⟨x, hx, e⟩
  exact h3 (List.mem_map.2 ⟨x, hx, by simpa using e⟩)
theorem above_ne {ws : List RdS} {c : RdS} {nm : List UInt8} {want : Bool} : (aboveL ws c nm want).2 = 0 ∨ (aboveL ws c nm want).2 = 20 ∨ (aboveL ws c nm want).2 = 22 ∨ (aboveL ws c nm want).2 = 23 := by
  unfold aboveL
  cases ws.findIdx? (fun r => decide (r.nm = nm)) with
  | none => exact .inr (.inl rfl)
  | some k =>
    simp only
    cases ws[k]? with
    | none => exact .inr (.inl rfl)
    | some p =>
      simp only
      split
      · exact .inr (.inr (.inr rfl))
      · split
        · exact .inr (.inr (.inl rfl))
        · exact .inl rfl
theorem maxLen_upd {w w' : World} (h : MaxLenAt w) (u : Upd w w' []) : MaxLenAt w' := by
  obtain ⟨m, hm⟩ := h
  exact ⟨m, (u.below.cell (World.block_lt_of_cell? w _ hm)).trans hm⟩
/-- The numbers of a class's interfaces. -/
def idsOf (ws : List RdS) (r : RdS) : List Nat := r.ifs.map fun x => (aboveL ws r x true).1
/-- While the interfaces are found. -/
structure DefI (w : World) (ws : List RdS) (r : RdS) (vi vm : Value) (k : Nat) (A3 : Option Addr) (c3 : Nat) (wr : World) : Prop where
  row : wr.ownsRow w.heap.size 3 1 (.slice A3 k c3) k ((((idsOf ws r).take k).map Int.ofNat).map numV)
  ok : ∀ i (h : i < r.ifs.length), i < k → (aboveL ws r r.ifs[i] true).2 = 0
  upd : Upd w wr []
  blk : Blk wr w.heap.size 46 #[.string (bs r.nm), .string (bs r.sup), vi, .int .i64 r.fl, .int .i64 r.ld, vm]
theorem DefI.step {w : World} {ws : List RdS} {r : RdS} {vi vm : Value} {k : Nat} {A3 : Option Addr} {c3 : Nat} {wr w4 w5 : World} (h : DefI w ws r vi vm k A3 c3 wr) (hk : k < r.ifs.length) (u : Upd wr w4 []) (h0 : (aboveL ws r r.ifs[k] true).2 = 0) {A' : Option Addr} {c' : Nat}
    (hg : (w4.alloc (.cells #[.int .i64 ((aboveL ws r r.ifs[k] true).1 : Nat)] 3)).grownBy w5 (Value.slice A3 k c3).ownBlock) (ho : w5.ownsRow w.heap.size 3 1 (.slice A' (k + 1) c') (k + 1) ((((idsOf ws r).take k).map Int.ofNat).map numV ++ [numV ((aboveL ws r r.ifs[k] true).1 : Nat)])) : DefI w ws r vi vm (k + 1) A' c' w5 := by
  have hk2 : k < (idsOf ws r).length := by simpa [idsOf] using hk
  have hu4 : Upd w (w4.alloc (.cells #[.int .i64 ((aboveL ws r r.ifs[k] true).1 : Nat)] 3)) [] := (h.upd.trans u).alloc _
  have hB : Blk (w4.alloc (.cells #[.int .i64 ((aboveL ws r r.ifs[k] true).1 : Nat)] 3)) w.heap.size 46 #[.string (bs r.nm), .string (bs r.sup), vi, .int .i64 r.fl, .int .i64 r.ld, vm] := (u.blk h.blk (by simp)).alloc _
  have hR : (w4.alloc (.cells #[.int .i64 ((aboveL ws r r.ifs[k] true).1 : Nat)] 3)).ownsRow w.heap.size 3 1 (.slice A3 k c3) k ((((idsOf ws r).take k).map Int.ofNat).map numV) := ((Upd.refl w4 []).alloc _).own (u.own h.row (by simp)) (by simp)
  refine ⟨?_, fun i hi hik => ?_, hu4.grown hg (fun q hq => .inr (own_base h.row q hq)), hB.grown_own hg hR (by decide)⟩
  · rw [List.take_succ_eq_append_getElem hk2, List.map_append, List.map_append]
    have e : (idsOf ws r)[k] = (aboveL ws r r.ifs[k] true).1 := by simp [idsOf]
    rw [e]
    exact ho
  · rcases Nat.lt_or_ge i k with h1 | h1
    · exact h.ok i hi h1
    · have : i = k := by omega
      subst this
      exact h0
theorem DefI.bad {w : World} {ws : List RdS} {r : RdS} {vi vm : Value} {k : Nat} {A3 : Option Addr} {c3 : Nat} {wr : World} (h : DefI w ws r vi vm k A3 c3 wr) (hk : k < r.ifs.length) (hn : (aboveL ws r r.ifs[k] true).2 ≠ 0) : ifsE ws r r.ifs = (aboveL ws r r.ifs[k] true).2 := ifsE_bad hk (fun i hi hik => h.ok i hi hik) hn
theorem DefI.all {w : World} {ws : List RdS} {r : RdS} {vi vm : Value} {A3 : Option Addr} {c3 : Nat} {wr : World} (h : DefI w ws r vi vm r.ifs.length A3 c3 wr) : ifsE ws r r.ifs = 0 ∧ ∀ i, i ∈ idsOf ws r → i < ws.length := by
  refine ⟨ifsE_zero (fun i hi => h.ok i hi hi), fun i hi => ?_⟩
  obtain ⟨x, hx, rfl⟩ := List.mem_map.1 hi
  obtain ⟨j, hj, rfl⟩ := List.getElem_of_mem hx
  exact above_lt (h.ok j hj hj)
theorem ints_len {w : World} {base cap : Nat} {A : Option Addr} {l : List Int} {n : Nat} (hn : l.length = n) (h : w.ownsRow base 3 1 (.slice A n cap) n (l.map numV)) : IntsAt w A l := by
  subst hn
  exact ints_own h
set_option maxHeartbeats 16000000 in
set_option maxRecDepth 100000 in
theorem define_any {w : World} {b mb : Nat} {es : List Ent} {S : List Nat} (h : HW w b mb es S) {r : RdS} {vi vm : Value} {cs : List Value} (hl : Lists w 0 r vi vm cs) (hk : r.kept) (hm : MaxLenAt w) :
    Calls Tryz.prog 15 #[.pointer (some ⟨b, 0, none⟩), .agg #[.string (bs r.nm), .string (bs r.sup), vi, .int .i64 r.fl, .int .i64 r.ld, vm]] w (defPost w b mb es S r []) := by
  obtain ⟨A, cap, n, D, gs, h⟩ := h
  obtain ⟨A1, k1, rfl⟩ := own_val hl.oi
  obtain ⟨A2, k2, rfl⟩ := own_val hl.om
  have hU0 := (Upd.refl w []).alloc (.cells #[.string (bs r.nm), .string (bs r.sup), .slice A1 r.ifs.length k1, .int .i64 r.fl, .int .i64 r.ld, .slice A2 r.ms.length k2] 46)
  have hB0 := Blk.new w 46 #[.string (bs r.nm), .string (bs r.sup), .slice A1 r.ifs.length k1, .int .i64 r.fl, .int .i64 r.ld, .slice A2 r.ms.length k2]
  have HB0 := hid hB0
  have HU0 := hid hU0
  have H := hid h
  have HL := hid hl
  have HKp := hid hk
  have HM := hid hm
  have hwlt := h.box.blk.lt
  clear hU0 hB0 h hl hk hm
  go_enter Tryz.func15, Tryz.ntmps15
  go_wp2_with fail
  revert HB0 HU0
  generalize w.alloc (.cells #[.string (bs r.nm), .string (bs r.sup), .slice A1 r.ifs.length k1, .int .i64 r.fl, .int .i64 r.ld, .slice A2 r.ms.length k2] 46) = w0
  intro HB0 HU0
  refine (check_lists (HL.out.upd HU0.out) HKp.out (maxLen_upd HM.out HU0.out)).mono ?_
  rintro e w1 ⟨rfl, hU1⟩
  have HB1 := hid (hU1.blk HB0.out (by simp))
  have HU1 := hid (HU0.out.trans hU1)
  clear hU1 HB0 HU0
  cases hck : checkB (clsS r) with
  | false =>
    rw [show errIf false = 1 from rfl]
    have Hd := hid (defD_1 (ws := rsOf es) hck)
    clear hck
    go_wp2
    refine bodyPost_ret (results_tmp2 rfl _ _ _) rfl ?_
    unfold defPost
    rw [Hd.out, if_neg (by decide)]
    exact ⟨rfl, HU1.out⟩
  | true =>
    rw [show errIf true = 0 from rfl]
    have Hck := hid hck
    have HGL := hid H.out.len
    have hB1 := (H.out.upd HU1.out).box.blk
    have x0 := (hB1.cell 0).trans (show _ = some (.slice A gs.length cap) from rfl)
    have x1 := (hB1.cell 1).trans (show _ = some (.map (some mb)) from rfl)
    have hbl := hB1.lt
    have c0 := (HB1.out.cell 0).trans (show _ = some (.string (bs r.nm)) from rfl)
    have hcl := HB1.out.lt
    have Hrl := hid (show (rsOf es).length = gs.length by rw [HGL.out]; simp [rsOf])
    clear hck hB1
    by_cases hbig : 300 ≤ gs.length
    · have hbi : decide ((300 : Int) ≤ gs.length) = true := decide_eq_true (by omega)
      have Hd := hid (defD_5 (ws := rsOf es) Hck.out (by rw [Hrl.out]; exact hbig))
      go_wp2
      refine bodyPost_ret (results_tmp2 rfl _ _ _) rfl ?_
      unfold defPost
      rw [Hd.out, if_neg (by decide)]
      exact ⟨rfl, HU1.out⟩
    · have hbi : decide ((300 : Int) ≤ gs.length) = false := decide_eq_false (by omega)
      have HKey := hid (show keyOf Tryz.prog 9 (.string (bs r.nm)) = some (.string r.nm) from by
        have h1 := keyOf_string_mk (P := Tryz.prog) Tryz.underlying9 (s := bs r.nm) (by rw [bs_size]; have := HKp.out.fine.nm; unfold maxLen; omega)
        rw [bs_data] at h1
        exact h1)
      obtain ⟨cn, hcn⟩ := ask_int (H.out.upd HU1.out).mp keyStr Tryz.underlying74 Tryz.underlying3 (zeroNum w1) HKey.out
      have Hcn := hid hcn
      have Hhas := hid (H.out.nms.has r.nm)
      have hB1 := (H.out.upd HU1.out).box.blk
      have HMp := fun (d : Nat) (os : Array Obj) => hid ((H.out.upd (HU1.out.trans (Upd.of_below (below_regrown w1 d os) []))).mp)
      clear hcn hB1
      go_wp2
      have k1 := cell_regrown x1
      have kc := cell_regrown c0
      refine wp_region_quiet_below (by kernel_rfl) (by kernel_rfl) ?_
      repeat (any_goals (first
        | (with_reducible refine BigFrame.wpQuiet_want (by kernel_rfl) (fun K hK => quiet_lookup_int (.tmp 33) (.tmp 35) 74 rfl 9 3 .i64 keyStr Tryz.underlying74 Tryz.underlying3 (fun w _ => zeroNum w) mb n D rfl (fun w' hw' => by obtain ⟨⟨d, os⟩, rfl⟩ := hw'; exact (HMp d os).out) (.string (bs r.nm)) (.string r.nm) rfl HKey.out cn Hcn.out (hK _ ?_)))
        | go_big_quiet_step (fail)
        | quiet_step (fail)))
      refine wpQuiet_nil ?_
      intro w2 hw2
      obtain ⟨⟨dq, osq⟩, rfl⟩ := hw2
      have hu := Upd.of_below (below_regrown w1 dq osq) []
      revert hu
      generalize grow (redrawn w1 dq) osq = w2
      intro hu
      have HU2 := hid (HU1.out.trans hu)
      have HB2 := hid (hu.blk HB1.out (by simp))
      clear hu HU1 HB1 x0 x1 c0 k1 kc hbl hcl HMp
      by_cases hin : r.nm ∈ es.map fun e => e.r.nm
      · have hhas : Maps.has D (.string r.nm) = true := by rw [Hhas.out]; exact decide_eq_true hin
        have Hd := hid (defD_25 (ws := rsOf es) Hck.out (by rw [Hrl.out]; exact hbig) (by rw [← names_rs]; exact hin))
        rw [hhas]
        clear hin hhas
        go_wp2
        refine bodyPost_ret (results_tmp2 rfl _ _ _) rfl ?_
        unfold defPost
        rw [Hd.out, if_neg (by decide)]
        exact ⟨rfl, HU2.out⟩
      · have hhas : Maps.has D (.string r.nm) = false := by rw [Hhas.out]; exact decide_eq_false hin
        have Hin := hid hin
        have Hd := hid (defD_ab (ws := rsOf es) Hck.out (by rw [Hrl.out]; exact hbig) (by rw [← names_rs]; exact hin))
        rw [hhas]
        clear hin hhas
        have y0 := (HB2.out.cell 0).trans (show _ = some (.string (bs r.nm)) from rfl)
        have y1 := (HB2.out.cell 1).trans (show _ = some (.string (bs r.sup)) from rfl)
        have y2 := (HB2.out.cell 2).trans (show _ = some (.slice A1 r.ifs.length k1) from rfl)
        have y3 := (HB2.out.cell 3).trans (show _ = some (.int .i64 r.fl) from rfl)
        have y4 := (HB2.out.cell 4).trans (show _ = some (.int .i64 r.ld) from rfl)
        have y5 := (HB2.out.cell 5).trans (show _ = some (.slice A2 r.ms.length k2) from rfl)
        have hyl := HB2.out.lt
        go_wp2_with fail
        refine (above_any (H.out.upd HU2.out) r A1 A2 _ _ k1 k2 r.sup false (by have := HKp.out.fine.nm; omega) (by have := HKp.out.fine.sup; omega)).mono ?_
        rintro e w3 ⟨rfl, hU3⟩
        have HU3 := hid (HU2.out.trans hU3)
        have HB3 := hid (hU3.blk HB2.out (by simp))
        clear hU3 HU2 HB2 y0 y1 y2 y3 y4 y5 hyl
        have Hlt := hid (fun h0 => above_lt (ws := rsOf es) (c := r) (nm := r.sup) (want := false) h0)
        have Hne := hid (above_ne (ws := rsOf es) (c := r) (nm := r.sup) (want := false))
        obtain ⟨⟨ak, ae⟩, hab⟩ : ∃ p, aboveL (rsOf es) r r.sup false = p := ⟨_, rfl⟩
        have Hab := hid hab
        rw [hab] at Hd Hlt Hne
        rw [hab]
        clear hab
        simp only at Hd Hlt Hne
        by_cases h0 : ae = 0
        · subst h0
          have Hlt2 := hid (Hlt.out rfl)
          have Hd2 := hid (show defD (rsOf es) r = ifsE (rsOf es) r r.ifs by rw [Hd.out, if_pos rfl])
          have HI0 : Hid (DefI w (rsOf es) r (.slice A1 r.ifs.length k1) (.slice A2 r.ms.length k2) 0 none 0 w3) := hid ⟨World.ownsRow_nil _ _ _ _, fun i h hi => absurd hi (by omega), HU3.out, HB3.out⟩
          clear Hlt Hne Hd
          have z2 := (HB3.out.cell 2).trans (show _ = some (.slice A1 r.ifs.length k1) from rfl)
          have hzl := HB3.out.lt
          have hifl : r.ifs.length ≤ 100000 := HKp.out.wf.ifs
          have HoI := hid HL.out.oi
          have hk1 := own_cap HL.out.oi
          clear HU3 HB3
          go_wp2
          go_loopw [54, 11] (fun t s wr => ∃ k A3 c3, t = .int .i64 (k : Nat) ∧ k ≤ r.ifs.length ∧ s = .slice A3 k c3 ∧ Hid (DefI w (rsOf es) r (.slice A1 r.ifs.length k1) (.slice A2 r.ms.length k2) k A3 c3 wr)) (fun t _ _ => r.ifs.length - (intOf t).toNat)
          case atStart => exact ⟨0, none, 0, rfl, Nat.zero_le _, rfl, HI0⟩
          case round =>
            obtain ⟨k, A3, c3, rfl, hk, rfl, HI⟩ := hrel
            clear HI0 z2 hzl
            by_cases hlt : k < r.ifs.length
            · obtain ⟨g, c9, hv, -, -, hgl⟩ := own_form HoI.out (by omega)
              have hoI := HoI.out
              cases hv
              have v0 := hoI.cellAt k (by omega)
              rw [List.getElem?_map, List.getElem?_eq_getElem hlt] at v0
              have vx : wr.cell? ⟨g, k, none⟩ = some (.string (bs r.ifs[k])) := (HI.out.upd.cells.1 _ _ hgl).trans v0
              have hgl2 := Nat.lt_of_lt_of_le hgl HI.out.upd.size
              have Hxl := hid (HKp.out.fine.ifs _ (List.getElem_mem hlt))
              have Hst := hid (fun w4 w5 A' c' (u : Upd wr w4 []) h0 hg ho => HI.out.step (w4 := w4) (w5 := w5) (A' := A') (c' := c') hlt u h0 hg ho)
              have Hbad := hid (fun hn => HI.out.bad hlt hn)
              have Hrow := hid HI.out.row
              have HUr := hid HI.out.upd
              have HBr := hid HI.out.blk
              obtain ⟨x, hx⟩ : ∃ x, r.ifs[k] = x := ⟨_, rfl⟩
              rw [hx] at vx Hxl Hst Hbad
              clear HI v0 hoI hx
              have y0 := (HBr.out.cell 0).trans (show _ = some (.string (bs r.nm)) from rfl)
              have y1 := (HBr.out.cell 1).trans (show _ = some (.string (bs r.sup)) from rfl)
              have y2 := (HBr.out.cell 2).trans (show _ = some (.slice (some ⟨g, 0, none⟩) r.ifs.length k1) from rfl)
              have y3 := (HBr.out.cell 3).trans (show _ = some (.int .i64 r.fl) from rfl)
              have y4 := (HBr.out.cell 4).trans (show _ = some (.int .i64 r.ld) from rfl)
              have y5 := (HBr.out.cell 5).trans (show _ = some (.slice A2 r.ms.length k2) from rfl)
              have yl := HBr.out.lt
              go_wp2_with fail
              refine (above_any (H.out.upd HUr.out) r _ A2 _ _ k1 k2 x true (by have := HKp.out.fine.nm; omega) (by have := Hxl.out; omega)).mono ?_
              rintro e w4 ⟨rfl, hU4⟩
              have HU4 := hid hU4
              clear hU4 vx y0 y1 y2 y3 y4 y5 yl
              obtain ⟨⟨xk, xe⟩, hxa⟩ : ∃ p, aboveL (rsOf es) r x true = p := ⟨_, rfl⟩
              rw [hxa] at Hst Hbad
              rw [hxa]
              clear hxa
              simp only at Hst Hbad
              by_cases h0 : xe = 0
              · subst h0
                obtain ⟨i0, hi0, hz0, hz1, hz2⟩ := info_parts infoI
                have HOw := hid (((Upd.refl w4 []).alloc (.cells #[.int .i64 (xk : Int)] 3)).own (HU4.out.own Hrow.out (by simp)) (by simp))
                have HSr : Hid ([numV (xk : Int)] ≠ [] → ∃ ad, (some ⟨w4.heap.size, 0, none⟩ : Option Addr) = some ad ∧ ∀ j u, [numV (xk : Int)][j]? = some u → (w4.alloc (.cells #[.int .i64 (xk : Int)] 3)).cell? (ad.add j) = some u) := hid (fun _ => by
                  refine ⟨_, rfl, fun j u hu => ?_⟩
                  rw [Addr.add_mid, Nat.zero_add, (Blk.new w4 3 #[.int .i64 (xk : Int)]).cell]
                  match j, hu with
                  | 0, hu => exact hu
                  | n + 1, hu => simp at hu)
                have hwz : w.heap.size ≤ (w4.alloc (.cells #[.int .i64 (xk : Int)] 3)).heap.size := by have h1 := HUr.out.size; have h2 := HU4.out.size; simp; omega
                have Hwz := hid hwz
                clear hwz
                go_wp2_with (at_builtin; go_must (refine wpList_append_all _ rfl (.tmp 68) (.tmp 70) 83 rfl 3 i0 _ 1 8 Tryz.underlying83 hi0 hz0 hz1 hz2 rfl (by decide) w.heap.size (.slice A3 k c3) k _ rfl (by exact HOw.out) (some ⟨w4.heap.size, 0, none⟩) 1 1 [numV (xk : Int)] rfl rfl (by exact HSr.out) (by intro u hu; rw [List.mem_singleton.1 hu]; rfl) (by unfold maxLen; omega) (by omega) (by exact Hwz.out) ?_); go_loud (intro A' c' w5 hown hg; have HN := hid (Hst.out w4 w5 A' c' HU4.out trivial hg hown); clear hown hg))
                go_roundw
                case rel => exact ⟨k + 1, A', c', (by go_num), by omega, rfl, HN⟩
                case measure => simp [intOf]; omega
              · have hnb : (xe != 0) = true := bne_iff_ne.2 h0
                have Hn2 := hid h0
                clear h0
                go_wp2
                refine bodyPost_ret (results_tmp2 rfl _ _ _) rfl ?_
                unfold defPost
                rw [Hd2.out, Hbad.out Hn2.out, if_neg Hn2.out]
                exact ⟨rfl, HUr.out.trans HU4.out⟩
            · obtain rfl : k = r.ifs.length := by omega
              have Hall := hid HI.out.all
              have HBr := hid HI.out.blk
              have HUr := hid HI.out.upd
              have Hrow := hid HI.out.row
              clear HI
              have y0 := (HBr.out.cell 0).trans (show _ = some (.string (bs r.nm)) from rfl)
              have y1 := (HBr.out.cell 1).trans (show _ = some (.string (bs r.sup)) from rfl)
              have y2 := (HBr.out.cell 2).trans (show _ = some (.slice A1 r.ifs.length k1) from rfl)
              have y3 := (HBr.out.cell 3).trans (show _ = some (.int .i64 r.fl) from rfl)
              have y4 := (HBr.out.cell 4).trans (show _ = some (.int .i64 r.ld) from rfl)
              have y5 := (HBr.out.cell 5).trans (show _ = some (.slice A2 r.ms.length k2) from rfl)
              have yl := HBr.out.lt
              go_wp2_with fail
              refine (copied_lists (HL.out.upd HUr.out) HKp.out).mono ?_
              rintro e w5 ⟨vi5, vm5, cs5, rfl, hL5, hU5⟩
              have HL5 := hid hL5
              have HU5 := hid (HUr.out.trans hU5)
              have Hrow5 := hid (hU5.own Hrow.out (by simp))
              have hge5 := hL5.ge
              have hwr := HUr.out.size
              clear hL5 hU5 Hrow y0 y1 y2 y3 y4 y5 yl
              have hli : (idsOf (rsOf es) r).length = r.ifs.length := by simp [idsOf]
              have hrl : (rsOf es).length = es.length := by simp [rsOf]
              go_wp2_with fail
              have hpu := HW.put (w := w5) ⟨_, _, _, _, _, H.out.upd HU5.out⟩ r vi5 vm5 cs5 (Lists.mono HL5.out (Nat.zero_le _)) HKp.out (ak : Int) ⟨by omega, by have := Hlt2.out; omega⟩ A3 c3 (idsOf (rsOf es) r) (ints_len (by rw [List.length_map, hli]) (by have := Hrow5.out; rw [List.take_of_length_le (by omega)] at this; exact this)) (fun i hi => by have := Hall.out.2 i hi; omega) (by omega) (by rw [hli]; exact own_cap Hrow5.out) Hin.out (by rw [← HGL.out]; omega)
              rw [hli] at hpu
              refine hpu.mono ?_
              rintro e w6 ⟨rfl, S', g1, g2, g3⟩
              have HG : Hid (∃ S', HW w6 b mb (es ++ [defE es r]) S' ∧ Upd w w6 S ∧ ∀ k, k ∈ S' → k ∈ S ∨ w.heap.size ≤ k) := hid (by
                refine ⟨S', ?_, (HU5.out.mono (by simp)).trans g2, fun q hq => ?_⟩
                · unfold defE
                  rw [Hab.out]
                  exact g1
                · rcases g3 q hq with h | h | h
                  · exact .inl h
                  · have := hge5 q h
                    exact .inr (by omega)
                  · exact .inr (Nat.le_trans HU5.out.size h))
              clear g1 g2 g3 hpu
              go_wp2
              refine bodyPost_ret (results_tmp2 rfl _ _ _) rfl ?_
              unfold defPost
              rw [if_pos (by rw [Hd2.out, Hall.out.1])]
              exact ⟨rfl, HG.out⟩
        · have hnb : (ae != 0) = true := bne_iff_ne.2 h0
          have Hne2 := hid h0
          clear h0
          go_wp2
          refine bodyPost_ret (results_tmp2 rfl _ _ _) rfl ?_
          unfold defPost
          rw [Hd.out, if_neg Hne2.out, if_neg Hne2.out]
          exact ⟨rfl, HU3.out⟩
end Go.Proofs.YtfpdeiefkimaaaaGreatDoor
/-
  Class: a copy of a class by its number; Len; walked. (Layer 6.)
-/
set_option linter.unusedSimpArgs false
set_option linter.unusedVariables false
namespace Go.Proofs.YtfpdeiefkimaaaaGreatDoor
open Go.RowKit Go.WideShapes Go.Maps Go.WideMaps

theorem HW.len {w : World} {b mb : Nat} {es : List Ent} {S : List Nat} (h : HW w b mb es S) : Calls Tryz.prog 19 #[.pointer (some ⟨b, 0, none⟩)] w fun e w' => e = .returned (.int .i64 es.length) ∧ w' = w := by
  obtain ⟨A, cap, n, D, gs, h⟩ := h
  rw [← h.len]
  exact len_any h.box
set_option maxHeartbeats 8000000 in
set_option maxRecDepth 100000 in
theorem class_any {w : World} {b mb : Nat} {es : List Ent} {S : List Nat} (h : HW w b mb es S) (k : Nat) {e0 : Ent} (he : es[k]? = some e0) :
    Calls Tryz.prog 20 #[.pointer (some ⟨b, 0, none⟩), .int .i64 k] w fun e w' => ∃ vi vm cs, e = .returned (.tuple #[.agg #[.string (bs e0.r.nm), .string (bs e0.r.sup), vi, .int .i64 e0.r.fl, .int .i64 e0.r.ld, vm], .int .i64 0]) ∧ Lists w' w.heap.size e0.r vi vm cs ∧ Upd w w' [] := by
  obtain ⟨A, cap, n, D, gs, h⟩ := h
  have hk : k < es.length := (List.getElem?_eq_some_iff.1 he).1
  have hek : es[k] = e0 := (List.getElem?_eq_some_iff.1 he).2
  have hkg : k < gs.length := by rw [h.len]; exact hk
  have hgl : gs.length ≤ 300 := by rw [h.len]; exact h.good.len
  obtain ⟨vi, vm, cs, A', cap', hE⟩ := h.ent k hk hkg
  rw [hek] at hE
  obtain ⟨A1, k1, rfl⟩ := own_val hE.li.oi
  obtain ⟨A2, k2, rfl⟩ := own_val hE.li.om
  have hat : atL gs k = some ⟨gs[k], 0, none⟩ := by
    unfold atL
    rw [if_neg (by omega), Int.toNat_natCast, List.getElem?_eq_getElem hkg]
    rfl
  have hAt := fun W (u : Upd w W []) => hid (at_any (h.upd u).box k (by omega))
  rw [hat] at hAt
  have HE := hid hE
  have HK := hid hE.kept
  clear hE he hek h hat hk
  generalize gs[k] = ge at *
  clear hkg hgl
  obtain ⟨⟨nm, sup, ifs, fl, ld, ms, st⟩, ab, dp, cl⟩ := e0
  simp only at HE HK ⊢
  have HU := hid ((Upd.refl w []).alloc (.cells #[.string ⟨#[]⟩, .string ⟨#[]⟩, .slice none 0 0, .int .i64 0, .int .i64 0, .slice none 0 0] 46))
  have HB := hid (Blk.new w 46 #[.string ⟨#[]⟩, .string ⟨#[]⟩, .slice none 0 0, .int .i64 0, .int .i64 0, .slice none 0 0])
  go_enter Tryz.func20, Tryz.ntmps20
  go_wp2_with fail
  refine (hAt _ HU.out).out.mono ?_
  rintro e w1 ⟨rfl, rfl⟩
  revert HU HB
  generalize w.alloc (.cells #[.string ⟨#[]⟩, .string ⟨#[]⟩, .slice none 0 0, .int .i64 0, .int .i64 0, .slice none 0 0] 46) = w1
  intro HU HB
  have hBE := HU.out.blk HE.out.blk (by simp)
  unfold entCells at hBE
  simp only at hBE
  have e0 := (hBE.cell 0).trans (show _ = some (.string (bs nm)) from rfl)
  have e1 := (hBE.cell 1).trans (show _ = some (.string (bs sup)) from rfl)
  have e2 := (hBE.cell 2).trans (show _ = some (.slice A1 ifs.length k1) from rfl)
  have e3 := (hBE.cell 3).trans (show _ = some (.int .i64 fl) from rfl)
  have e4 := (hBE.cell 4).trans (show _ = some (.int .i64 ld) from rfl)
  have e5 := (hBE.cell 5).trans (show _ = some (.slice A2 ms.length k2) from rfl)
  have hel := hBE.lt
  clear hBE hAt
  go_wp2_with fail
  refine (copied_lists (r := ⟨nm, sup, ifs, fl, ld, ms, st⟩) (HE.out.li.upd HU.out) HK.out).mono ?_
  rintro e w2 ⟨vi2, vm2, cs2, rfl, hL2, hU2⟩
  obtain ⟨B1, j1, rfl⟩ := own_val hL2.oi
  obtain ⟨B2, j2, rfl⟩ := own_val hL2.om
  have HL2 := hid (Lists.mono hL2 HU.out.size)
  have HU2 := hid (HU.out.trans hU2)
  have HB2 := hid (hU2.blk HB.out (by simp))
  clear hL2 hU2 HB HU e0 e1 e2 e3 e4 e5 hel
  have z0 := (HB2.out.cell 0).trans (show _ = some (.string ⟨#[]⟩) from rfl)
  have z1 := (HB2.out.cell 1).trans (show _ = some (.string ⟨#[]⟩) from rfl)
  have z2 := (HB2.out.cell 2).trans (show _ = some (.slice none 0 0) from rfl)
  have z3 := (HB2.out.cell 3).trans (show _ = some (.int .i64 0) from rfl)
  have z4 := (HB2.out.cell 4).trans (show _ = some (.int .i64 0) from rfl)
  have z5 := (HB2.out.cell 5).trans (show _ = some (.slice none 0 0) from rfl)
  have f0 := HB2.out.frozen 0
  have f1 := HB2.out.frozen 1
  have f2 := HB2.out.frozen 2
  have f3 := HB2.out.frozen 3
  have f4 := HB2.out.frozen 4
  have f5 := HB2.out.frozen 5
  have hzl := HB2.out.lt
  go_wp2
  rw [six_set0]
  have hBe : Blk (w2.setCells w.heap.size 0 [.string (bs nm), .string (bs sup), .slice B1 ifs.length j1, .int .i64 fl, .int .i64 ld, .slice B2 ms.length j2]) w.heap.size 46 #[.string (bs nm), .string (bs sup), .slice B1 ifs.length j1, .int .i64 fl, .int .i64 ld, .slice B2 ms.length j2] := six_blk6 _ _ _ _ _ _ HB2.out
  have hUe : Upd w2 (w2.setCells w.heap.size 0 [.string (bs nm), .string (bs sup), .slice B1 ifs.length j1, .int .i64 fl, .int .i64 ld, .slice B2 ms.length j2]) [w.heap.size] := (Upd.refl w2 _).setCells' (.inl (by simp)) _ 0
  have hLe := HL2.out.keep hUe (fun q hq hm => by rw [List.mem_singleton.1 hm] at hq; exact HL2.out.blk_ne HB2.out ne_sC ne_mC ne_iC hq)
  have hUw := HU2.out.fresh hUe (fun q hq => by rw [List.mem_singleton.1 hq]; exact Nat.le_refl _)
  revert hBe hUe hLe hUw
  generalize w2.setCells w.heap.size 0 [.string (bs nm), .string (bs sup), .slice B1 ifs.length j1, .int .i64 fl, .int .i64 ld, .slice B2 ms.length j2] = we
  intro hBe hUe hLe hUw
  have g0 := (hBe.cell 0).trans (show _ = some (.string (bs nm)) from rfl)
  have g1 := (hBe.cell 1).trans (show _ = some (.string (bs sup)) from rfl)
  have g2 := (hBe.cell 2).trans (show _ = some (.slice B1 ifs.length j1) from rfl)
  have g3 := (hBe.cell 3).trans (show _ = some (.int .i64 fl) from rfl)
  have g4 := (hBe.cell 4).trans (show _ = some (.int .i64 ld) from rfl)
  have g5 := (hBe.cell 5).trans (show _ = some (.slice B2 ms.length j2) from rfl)
  refine bodyPost_ret (v := .tuple #[.agg #[.string (bs nm), .string (bs sup), .slice B1 ifs.length j1, .int .i64 fl, .int .i64 ld, .slice B2 ms.length j2], .int .i64 0]) (by simp [results, Tryz.results20, go_sem, g0, g1, g2, g3, g4, g5]) rfl ?_
  exact ⟨_, _, _, rfl, hLe, hUw⟩
end Go.Proofs.YtfpdeiefkimaaaaGreatDoor
