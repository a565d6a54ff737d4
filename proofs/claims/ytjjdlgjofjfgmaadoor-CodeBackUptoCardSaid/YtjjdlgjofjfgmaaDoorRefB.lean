/-
  The document's answer on names, walked: Parts, Valid, Member.
-/
import Derived.Test.YtjjdlgjofjfgmaaDoorSplitB
import Derived.Test.YtjjdlgjofjfgmaaDoorRefA
set_option linter.unusedSimpArgs false
set_option linter.unusedVariables false
namespace Go.Proofs.YtjjdlgjofjfgmaaDoor
open Go.RowKit

theorem infoString : (Tryd.prog.info? 9).map (fun i => (i.zero, i.size, i.bytes)) = some (some (.string ⟨#[]⟩), 1, 16) := by kernel_rfl
def strV (p : List UInt8) : Value := .string (bs p)

/-- A row of strings of the call's own that is handed back. -/
def rowPost (ps : List (List UInt8)) (w : World) (e : Ending) (w' : World) : Prop :=
  ∃ g cap, e = .returned (.slice (some ⟨g, 0, none⟩) ps.length cap) ∧ w'.ownsRow 0 9 1 (.slice (some ⟨g, 0, none⟩) ps.length cap) ps.length (ps.map strV) ∧ w.heap.size ≤ g ∧ Upd w w' []

def cutInv (c : UInt8) (l : List UInt8) (w : World) (v f i : Value) (wr : World) : Prop :=
  ∃ ps m k, f = .int .i64 (m : Nat) ∧ i = .int .i64 (k : Nat) ∧ Hid (cutRel c l ps m k) ∧ wr.ownsRow 0 9 1 v ps.length (ps.map strV) ∧ (∀ k, k ∈ Value.ob v → w.heap.size ≤ k) ∧ Upd w wr []

set_option maxHeartbeats 2000000 in
set_option maxRecDepth 100000 in
theorem partsR_any (l : List UInt8) (w : World) (hl : l.length ≤ 100000000) : Calls Tryd.prog 69 #[.string (bs l)] w (rowPost (splitL 47 l) w) := by
  have hs : (bs l).size = l.length := bs_size l
  obtain ⟨i0, hi0, hz0, hz1, hz2⟩ := info_parts infoString
  have Hs := hid hs
  have hs' : (bs l).size ≤ 100000000 := by omega
  clear hs
  go_enter Tryd.func69, Tryd.ntmps69
  go_wp2
  go_loopw [3, 4, 5] (fun v f i wr => cutInv 47 l w v f i wr) (fun _ _ i _ => (bs l).size - (intOf i).toNat)
  case atStart => exact ⟨[], 0, 0, rfl, rfl, hid (cutRel_start _ _), ⟨rfl, .inl ⟨rfl, rfl⟩⟩, by intro k hk; simp [Value.ob, Value.ownBlock] at hk, Upd.refl _ _⟩
  case round =>
    obtain ⟨ps, m, k, rfl, rfl, hr, hown, hv, hU⟩ := hrel
    have hmk : m ≤ k := hr.out.1
    have hk : k ≤ (bs l).size := by have := hr.out.2.1; rw [Hs.out]; exact this
    have hps : ps.length ≤ k := hr.out.2.2.2.2
    obtain ⟨A, cap, rfl, hcap⟩ := own_slice hown
    by_cases hlt : k < (bs l).size
    · have hkl : k < l.length := by rw [← Hs.out]; exact hlt
      have hb := ((bs l)[k]'hlt).toNat_lt
      by_cases hc : l[k] = 47
      · have hr2 := hid (cutRel_cut hr.out hkl hc)
        have hq : ((bs l)[k]'hlt).toNat = 47 := by rw [bs_get l k hlt, hc]; rfl
        have he : (bs l).extract m k = bs ((l.drop m).take (k - m)) := bs_extract l m k
        have He := hid he
        clear hc he
        go_wp2_with (at_builtin; go_must (refine wpList_append_one _ rfl (.tmp 16) (.tmp 21) 44 rfl 9 i0 _ 1 16 Tryd.underlying44 hi0 hz0 hz1 hz2 rfl (by decide) (by decide) (.slice A ps.length cap) ps.length (ps.map strV) rfl (by exact hown.alloc _) (by omega) wr.heap.size 9 #[.string ((bs l).extract m k)] rfl (by exact Blk.new_at (by simp)) rfl rfl ?_); intro g' cap' w9 hown' hg' hat')
        have hU9 : Upd w w9 [] := (hU.alloc _).grown hg' (by intro q hq; right; exact hv _ (mem_ob.2 hq))
        have hown2 : w9.ownsRow 0 9 1 (.slice (some ⟨g', 0, none⟩) (ps.length + 1) cap') (ps ++ [(l.drop m).take (k - m)]).length ((ps ++ [(l.drop m).take (k - m)]).map strV) := by
          rw [List.length_append, List.map_append]
          rw [He.out] at hown'
          exact hown'
        have hv2 : ∀ q, q ∈ Value.ob (.slice (some ⟨g', 0, none⟩) (ps.length + 1) cap') → w.heap.size ≤ q := by
          intro q hq
          have := mem_ob.1 hq
          simp [Value.ownBlock] at this
          subst this
          rcases hat' with h | h
          · exact hv _ (mem_ob.2 h)
          · rw [h]; have := hU.size; simp; omega
        clear hown hown' hv hU hg' hat'
        go_wp2
        go_roundw
        case rel => exact ⟨_, k + 1, k + 1, by go_num, by go_num, hr2, by simpa using hown2, hv2, hU9⟩
        case measure => simp [intOf]; omega
      · have hr2 := hid (cutRel_skip hr.out hkl hc)
        have hq : ((((bs l)[k]'hlt).toNat : Int) == 47) = false := by
          rw [bs_get l k hlt, beq_eq_false_iff_ne]
          intro h
          exact hc (UInt8.toNat_inj.1 (Int.ofNat.inj h))
        clear hc
        go_wp2
        go_roundw
        case rel => exact ⟨ps, m, k + 1, rfl, by go_num, hr2, hown, hv, hU⟩
        case measure => simp [intOf]; omega
    · obtain rfl : k = (bs l).size := by omega
      have he := cutRel_end (by have := hr.out; rw [Hs.out] at this; exact this)
      have hx : (bs l).extract m (bs l).size = bs (l.drop m) := by
        rw [bs_extract, Hs.out, List.take_of_length_le (by simp)]
      have Hx := hid hx
      have He := hid he
      clear hx he
      go_wp2_with (at_builtin; go_must (refine wpList_append_one _ rfl (.tmp 25) (.tmp 29) 44 rfl 9 i0 _ 1 16 Tryd.underlying44 hi0 hz0 hz1 hz2 rfl (by decide) (by decide) (.slice A ps.length cap) ps.length (ps.map strV) rfl (by exact hown.alloc _) (by omega) wr.heap.size 9 #[.string ((bs l).extract m (bs l).size)] rfl (by exact Blk.new_at (by simp)) rfl rfl ?_); intro g' cap' w9 hown' hg' hat')
      go_ret
      have hlen : (splitL 47 l).length = ps.length + 1 := by rw [He.out]; simp
      refine ⟨g', cap', by rw [hlen]; rfl, ?_, ?_, (hU.alloc _).grown hg' (by intro q hq; right; exact hv _ (mem_ob.2 hq))⟩
      · rw [hlen, He.out, List.map_append]
        rw [Hx.out] at hown'
        exact hown'
      · rcases hat' with h | h
        · exact hv _ (mem_ob.2 h)
        · rw [h]; have := hU.size; simp; omega

theorem own_cell {w : World} {base : Nat} {e : TypeId} {n cap g : Nat} {xs : List Value} (h : w.ownsRow base e 1 (.slice (some ⟨g, 0, none⟩) n cap) n xs) (i : Nat) (hi : i < n) : w.cell? ⟨g, i, none⟩ = xs[i]? := by
  rcases h.2 with ⟨h1, _⟩ | ⟨g', cap', cur, hv, hb, hg, h1, h2, h3, h4⟩
  · cases h1
  · injection hv with hv1 hv2 hv3
    injection hv1 with hv1
    injection hv1 with hv1
    subst hv1
    rw [cell_of_row w g i cur e (0, 0) hg, ← h4, List.getElem?_take]
    simp [hi]

set_option maxHeartbeats 1000000 in
theorem validR_any (l : List UInt8) (w : World) (hl : l.length ≤ 9223372036854775807) : Calls Tryd.prog 42 #[.string (bs l)] w fun e w' => e = .returned (.bool (validB l)) ∧ Upd w w' [] := by
  have hs : (bs l).size = l.length := bs_size l
  by_cases h60 : l.length ≤ 60
  · have hv : validB l = (splitL 47 l).all partB := by unfold validB; simp [h60]
    have hn : (splitL 47 l).length ≤ 61 := by
      rw [splitL_length]
      have := List.count_le_length (a := (47 : UInt8)) (l := l)
      omega
    have hz : ∀ p, p ∈ splitL 47 l → p.length ≤ 60 := fun p hp => Nat.le_trans (splitL_le 47 l p hp) h60
    have Hp := hid (partsR_any l w (by omega))
    rw [hv]
    generalize splitL 47 l = ps at Hp hn hz
    clear hv
    go_enter Tryd.func42, Tryd.ntmps42
    go_wp2_with fail
    refine Hp.out.mono ?_
    rintro e w1 ⟨g, cap, rfl, hown, hg, hU⟩
    go_wp2
    go_loop [4] (fun t => ∃ k : Nat, k ≤ ps.length ∧ t = .int .i64 k ∧ Hid ((ps.take k).all partB = true)) (fun t => ps.length - (intOf t).toNat)
    case atStart => exact ⟨0, Nat.zero_le _, rfl, hid (by simp)⟩
    case round =>
      obtain ⟨k, hk, rfl, hp⟩ := hrel
      by_cases hlt : k < ps.length
      · have hc := own_cell hown k hlt
        rw [List.getElem?_map, List.getElem?_eq_getElem hlt] at hc
        simp only [Option.map_some, strV] at hc
        have hz1 := hz _ (List.getElem_mem hlt)
        have Hq := hid (partR_any (bs ps[k]) w1 (by rw [bs_size]; omega))
        rw [bs_data] at Hq
        obtain ⟨b, hb⟩ : ∃ b, partB ps[k] = b := ⟨_, rfl⟩
        rw [hb] at Hq
        have Hb := hid hb
        clear hb hz1
        cases b with
        | true =>
          go_wp2_with fail
          refine Hq.out.mono ?_
          rintro e w2 ⟨rfl, rfl⟩
          go_wp2
          go_round
          case rel =>
            exact ⟨k + 1, by omega, by go_num, hid (by
              rw [List.take_succ_eq_append_getElem hlt, List.all_append, hp.out]
              simp [Hb.out])⟩
          case measure => simp [intOf]; omega
        | false =>
          go_wp2_with fail
          refine Hq.out.mono ?_
          rintro e w2 ⟨rfl, rfl⟩
          go_wp2
          go_ret
          refine ⟨bool_ret ?_, hU⟩
          symm
          rw [List.all_eq_false]
          exact ⟨ps[k], List.getElem_mem hlt, by simp [Hb.out]⟩
      · obtain rfl : k = ps.length := by omega
        rw [List.take_length] at hp
        go_wp2
        go_ret
        exact ⟨bool_ret hp.out.symm, hU⟩
  · have hv : validB l = false := by unfold validB; simp [h60]
    rw [hv]
    clear hv
    go_enter Tryd.func42, Tryd.ntmps42
    go_wp2
    go_ret
    exact ⟨rfl, Upd.refl _ _⟩

theorem memberR_any (s : ByteArray) (w : World) (hs : s.size ≤ 9223372036854775807) : Calls Tryd.prog 51 #[.string s] w fun e w' => e = .returned (.bool (memberB s.data.toList)) ∧ w = w' := by
  have Hc := hid (partR_any s w hs)
  obtain ⟨b, hb⟩ : ∃ b : Bool, partB s.data.toList = b := ⟨_, rfl⟩
  rw [hb] at Hc
  have Hb := hid hb
  clear hb
  have hm : memberB s.data.toList = (decide (s.toList = [60, 105, 110, 105, 116, 62]) || (decide (s.size ≤ 60) && b)) := by
    rw [Bool.eq_iff_iff]
    simp [initB, memberB, Hb.out, ByteArray.toList_eq]
    exact or_congr decide_eq_true_iff Iff.rfl
  rw [hm]
  by_cases hi : s.toList = [60, 105, 110, 105, 116, 62]
  · go_enter Tryd.func51, Tryd.ntmps51
    go_wp2_with fail
    go_ret
    exact ⟨bool_ret (by simp [hi]), rfl⟩
  · by_cases hl : s.size ≤ 60
    · go_enter Tryd.func51, Tryd.ntmps51
      go_wp2_with fail
      refine Hc.out.mono ?_
      rintro e w1 ⟨rfl, rfl⟩
      go_wp2
      go_ret
      exact ⟨bool_ret (by simp [hi, hl]), rfl⟩
    · go_enter Tryd.func51, Tryd.ntmps51
      go_wp2
      go_ret
      exact ⟨bool_ret (by simp [hi, hl]), rfl⟩
end Go.Proofs.YtjjdlgjofjfgmaaDoor
