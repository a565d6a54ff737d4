/-
  put's closure: a number is added to an entry's closure, if it is not among it; walked.
-/
import Derived.Test.YtfpdeiefkimaaaaGreatDoorR1
import Derived.Test.YtfpdeiefkimaaaaGreatDoorR2
import Derived.Deep.Upon
import Derived.Deep.MidRow
import Derived.Deep.RegionLaw
set_option linter.unusedSimpArgs false
set_option linter.unusedVariables false
namespace Go.Proofs.YtfpdeiefkimaaaaGreatDoor
open Go.RowKit

theorem infoI : (Tryz.prog.info? 3).map (fun i => (i.zero, i.size, i.bytes)) = some (some (.int .i64 0), 1, 8) := by kernel_rfl

theorem ints_own {w : World} {base cap : Nat} {A : Option Addr} {l : List Int} (h : w.ownsRow base 3 1 (.slice A l.length cap) l.length (l.map numV)) : IntsAt w A l := by
  intro hne
  obtain ⟨g, cap', hv, -, -, hlt⟩ := own_form h (List.length_pos_iff.2 hne)
  cases hv
  refine ⟨g, 0, rfl, hlt, fun i hi => ?_⟩
  rw [Nat.zero_add, h.cellAt i (by omega), List.getElem?_map, List.getElem?_eq_getElem hi]
  rfl

set_option maxHeartbeats 4000000 in
set_option maxRecDepth 100000 in
theorem add_any (base cv ge : Nat) (a0 a1 a2 a3 a4 a5 a6 a7 : Value) (A : Option Addr) (cap : Nat) (l : List Int) (x : Int) (w : World) (hc : w.cell? ⟨cv, 0, none⟩ = some (.pointer (some ⟨ge, 0, none⟩))) (hne : cv ≠ ge)
    (hb : Blk w ge 97 #[a0, a1, a2, a3, a4, a5, a6, a7, .slice A l.length cap]) (ho : w.ownsRow base 3 1 (.slice A l.length cap) l.length (l.map numV)) (hl : l.length ≤ 1000) (hbase : base ≤ w.heap.size) (hcv : (Value.slice A l.length cap).ownBlock ≠ some cv) :
    Calls Tryz.prog 70 #[.int .i64 x, .pointer (some ⟨cv, 0, none⟩)] w fun e w' => e = .returned (.tuple #[]) ∧ ∃ A' cap', Blk w' ge 97 #[a0, a1, a2, a3, a4, a5, a6, a7, .slice A' (addI l x).length cap'] ∧ w'.ownsRow base 3 1 (.slice A' (addI l x).length cap') (addI l x).length ((addI l x).map numV) ∧ Upd w w' (ge :: Value.ob (.slice A l.length cap)) := by
  have Hct := hid (containsI_any A cap l x w (ints_own ho) (by omega))
  have x8 := (hb.cell 8).trans (show _ = some (.slice A l.length cap) from rfl)
  have f8 := hb.frozen 8
  have hlt := hb.lt
  have hcl := World.block_lt_of_cell? w _ hc
  have HB := hid hb
  have HO := hid ho
  have HC := hid hc
  obtain ⟨i0, hi0, hz0, hz1, hz2⟩ := info_parts infoI
  by_cases hx : x ∈ l
  · have hd : addI l x = l := if_pos hx
    rw [hd]
    rw [decide_eq_true hx] at Hct
    clear hb ho
    go_enter Tryz.func70, Tryz.ntmps70
    go_wp2_with fail
    refine Hct.out.mono ?_
    rintro e w1 ⟨rfl, rfl⟩
    go_wp2
    exact bodyPost_end (results_none rfl _ _ _) rfl ⟨rfl, A, cap, HB.out, HO.out, Upd.refl _ _⟩
  · have hd : addI l x = l ++ [x] := if_neg hx
    rw [hd]
    rw [decide_eq_false hx] at Hct
    clear hb ho
    go_enter Tryz.func70, Tryz.ntmps70
    go_wp2_with fail
    refine Hct.out.mono ?_
    rintro e w1 ⟨rfl, rfl⟩
    have hA := (Upd.refl w1 []).alloc (.cells #[.int .i64 x] 3)
    have HOw : Hid (∀ W : World, W.heap = (w1.alloc (.cells #[.int .i64 x] 3)).heap → W.ownsRow base 3 1 (.slice A l.length cap) l.length (l.map numV)) := hid (fun W hh => by
      have h := hA.own HO.out (fun _ _ => by simp)
      refine ⟨h.1, ?_⟩
      rcases h.2 with h2 | ⟨g, c2, cur, hv, hb0, hg, rest⟩
      · exact .inl h2
      · exact .inr ⟨g, c2, cur, hv, hb0, by rw [hh]; exact hg, rest⟩)
    have HSr : Hid (∀ W : World, W.heap = (w1.alloc (.cells #[.int .i64 x] 3)).heap → [numV x] ≠ [] → ∃ ad, (some ⟨w1.heap.size, 0, none⟩ : Option Addr) = some ad ∧ ∀ j u, [numV x][j]? = some u → W.cell? (ad.add j) = some u) := hid (fun W hh _ => by
      refine ⟨_, rfl, fun j u hu => ?_⟩
      have hB := Blk.new w1 3 #[.int .i64 x]
      have hB' : Blk W w1.heap.size 3 #[.int .i64 x] := by unfold Blk; rw [hh]; exact hB
      rw [Addr.add_mid, Nat.zero_add, hB'.cell]
      match j, hu with
      | 0, hu => exact hu
      | n + 1, hu => simp at hu)
    have HK : Hid (∀ (W w' : World) (A' : Option Addr) (c' : Nat), W.grownBy w' (Value.slice A l.length cap).ownBlock → W.heap = (w1.alloc (.cells #[.int .i64 x] 3)).heap → W.os = w1.os → W.tape = w1.tape → W.output = w1.output → w'.ownsRow base 3 1 (.slice A' (l.length + 1) c') (l.length + 1) (l.map numV ++ [numV x]) →
        (w'.cell? ⟨cv, 0, none⟩ = some (.pointer (some ⟨ge, 0, none⟩)) ∧ (∃ v, w'.cell? ⟨ge, 8, none⟩ = some v) ∧ w'.frozen? ⟨ge, 8, none⟩ = false) ∧ Hid (Blk (w'.setCell ⟨ge, 8, none⟩ (.slice A' (l.length + 1) c')) ge 97 #[a0, a1, a2, a3, a4, a5, a6, a7, .slice A' (l.length + 1) c'] ∧ (w'.setCell ⟨ge, 8, none⟩ (.slice A' (l.length + 1) c')).ownsRow base 3 1 (.slice A' (l.length + 1) c') (l.length + 1) (l.map numV ++ [numV x]) ∧ Upd w1 (w'.setCell ⟨ge, 8, none⟩ (.slice A' (l.length + 1) c')) (ge :: Value.ob (.slice A l.length cap)))) := hid (fun W w' A' c' hg hh h1 h2 h3 ho => by
      have hs : W.heap.size = w1.heap.size + 1 := by rw [hh]; simp
      have hbW : Blk W ge 97 #[a0, a1, a2, a3, a4, a5, a6, a7, .slice A l.length cap] := by unfold Blk; rw [hh]; exact HB.out.alloc _
      have hb' := hbW.grown_own hg (HOw.out W hh) (by decide)
      have hcW : W.cell? ⟨cv, 0, none⟩ = some (.pointer (some ⟨ge, 0, none⟩)) := (World.cell?_of_block (by rw [hh]; exact Below.heap_alloc w1 _ cv hcl)).trans HC.out
      have hc' : w'.cell? ⟨cv, 0, none⟩ = some (.pointer (some ⟨ge, 0, none⟩)) := (hg.cell_far ⟨cv, 0, none⟩ (by show cv < W.heap.size; omega) (fun e => hcv e.symm)).trans hcW
      refine ⟨⟨hc', ⟨_, (hb'.cell 8).trans rfl⟩, hb'.frozen 8⟩, hid ⟨hb'.set_ 8 _, ownsRow_setCell_other ho (own_blk_ne ho hb' (by decide)) _, ?_⟩⟩
      have hu : Upd w1 w' (ge :: Value.ob (.slice A l.length cap)) := by
        refine ⟨hg.os.trans h1, hg.tape.trans h2, hg.output.trans h3, by have := hg.size; omega, fun b hb hn => ?_⟩
        refine (hg.block b (by omega) (fun e => hn (List.mem_cons_of_mem _ (mem_ob.2 e.symm)))).trans ?_
        rw [hh]
        exact Below.heap_alloc w1 _ b hb
      exact hu.setCell (p := ⟨ge, 8, none⟩) (.inl (by simp)) _)
    have HLen : Hid ((l ++ [x]).length = l.length + 1) := hid (by simp)
    have HMap : Hid ((l ++ [x]).map numV = l.map numV ++ [numV x]) := hid (by simp)
    go_wp2
    go_region_law (refine step_append_all _ rfl (.tmp 14) (.tmp 16) 83 rfl 3 i0 _ 1 8 Tryz.underlying83 hi0 hz0 hz1 hz2 rfl (by decide) base (.slice A l.length cap) l.length (l.map numV) rfl (by exact HOw.out _ rfl) (some ⟨w1.heap.size, 0, none⟩) 1 1 [numV x] rfl rfl (by exact HSr.out _ rfl) (by intro u hu; rw [List.mem_singleton.1 hu]; rfl) (by unfold maxLen; omega) (by omega) (by simp; omega) ?_; intro A' c' w7 hown' hg'; obtain ⟨⟨p7, ⟨pv, pe⟩, pf⟩, HR7⟩ := HK.out _ _ _ _ hg' rfl rfl rfl rfl hown'; clear hown' hg')
    all_goals
      go_wp2
      exact bodyPost_end (results_none rfl _ _ _) rfl ⟨rfl, A', c', by rw [HLen.out]; exact HR7.out.1, by rw [HLen.out, HMap.out]; exact HR7.out.2.1, HR7.out.2.2⟩
end Go.Proofs.YtfpdeiefkimaaaaGreatDoor
