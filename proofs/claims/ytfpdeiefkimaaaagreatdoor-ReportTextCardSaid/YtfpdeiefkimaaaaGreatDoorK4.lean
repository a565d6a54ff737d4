/-
  Package types, walked: ParseDesc, with what it says of void. (Printed by gen_typesV.py.)
-/
import Derived.Test.YtfpdeiefkimaaaaGreatDoorK2
import Derived.Test.YtfpdeiefkimaaaaGreatDoorK3
set_option linter.unusedSimpArgs false
set_option linter.unusedVariables false
namespace Go.Proofs.YtfpdeiefkimaaaaGreatDoor
open Go.RowKit

/-- Does a descriptor give nothing back? -/
def voidL (l : List UInt8) : Bool := match argsL l.length l.tail with
  | some q => takes 86 q.2.2
  | none => false
def descPostV (l : List UInt8) (r : Nat × Int) (w : World) (e : Ending) (w' : World) : Prop :=
  (∃ A cap vd d nm, e = .returned (.tuple #[.agg #[.slice A r.1 cap, .bool vd, .int .i64 d, .string (bs nm)], .int .i64 r.2]) ∧ (r.2 = 0 → vd = voidL l)) ∧ Upd w w' []

set_option maxHeartbeats 8000000 in
set_option maxRecDepth 100000 in
theorem parseDescV_any (l : List UInt8) (w : World) (hl : l.length ≤ 9223372036854775807) (hm : MaxLenAt w) : Calls Tryz.prog 125 #[.string (bs l)] w (descPostV l (descL l) w) := by
  have hs : (bs l).size = l.length := bs_size l
  by_cases hbig : 2000 < l.length
  · rw [show descL l = (0, 5) by unfold descL; rw [if_pos hbig]]
    go_enter Tryz.func125, Tryz.ntmps125
    go_wp2
    go_step3
    go_wp2
    rw [Exit.noGoto_ret]
    exact bodyPost_ret (v := .tuple #[.agg #[.slice none 0 0, .bool false, .int .i64 0, .string ⟨#[]⟩], .int .i64 5]) (by simp [results, Tryz.results125, go_sem]) rfl ⟨⟨none, 0, false, 0, [], rfl, fun h => by simp at h⟩, (Upd.refl _ _).alloc _⟩
  · have hU0 : Upd w (((w.alloc (.cells #[.slice none 0 0, .bool false, .int .i64 0, .string ⟨#[]⟩] 181)).alloc (.cells #[.string (bs l), .bool false] 226)).alloc (.cells #[.slice none 0 0, .bool false, .int .i64 0, .string ⟨#[]⟩] 181)) [] := (((Upd.refl w []).alloc _).alloc _).alloc _
    have hC0 : Blk (((w.alloc (.cells #[.slice none 0 0, .bool false, .int .i64 0, .string ⟨#[]⟩] 181)).alloc (.cells #[.string (bs l), .bool false] 226)).alloc (.cells #[.slice none 0 0, .bool false, .int .i64 0, .string ⟨#[]⟩] 181)) (w.heap.size + 1) 226 #[.string (bs l), .bool false] := (Blk.new_at (by simp)).alloc _
    have hD0 : Blk (((w.alloc (.cells #[.slice none 0 0, .bool false, .int .i64 0, .string ⟨#[]⟩] 181)).alloc (.cells #[.string (bs l), .bool false] 226)).alloc (.cells #[.slice none 0 0, .bool false, .int .i64 0, .string ⟨#[]⟩] 181)) (w.heap.size + 1 + 1) 181 #[.slice none 0 0, .bool false, .int .i64 0, .string ⟨#[]⟩] := Blk.new_at (by simp)
    have hR0 : Blk (((w.alloc (.cells #[.slice none 0 0, .bool false, .int .i64 0, .string ⟨#[]⟩] 181)).alloc (.cells #[.string (bs l), .bool false] 226)).alloc (.cells #[.slice none 0 0, .bool false, .int .i64 0, .string ⟨#[]⟩] 181)) w.heap.size 181 #[.slice none 0 0, .bool false, .int .i64 0, .string ⟨#[]⟩] := ((Blk.new _ _ _).alloc _).alloc _
    have Ht := hid (take_any (w.heap.size + 1) l false 40 40 _ rfl hC0 (by omega))
    obtain ⟨i0, hi0, hz0, hz1, hz2⟩ := info_parts infoType
    have HU0 := hid hU0
    have HD0 := hid hD0
    have HR0 := hid hR0
    clear hU0 hC0 hR0 hD0
    go_enter Tryz.func125, Tryz.ntmps125
    go_wp2
    go_step3
    go_wp2_with fail
    refine Ht.out.mono ?_
    rintro e w1 ⟨rfl, hC1, hU1⟩
    have hI : Hid (descInv l w (.bool (takes 40 l)) w1) := by
      refine ⟨takes 40 l, 0, false, left 40 l, .slice none 0 0, [], rfl, ?_, hC1, hU1.blk HD0.out (by simp), hU1.blk HR0.out (by simp), ⟨rfl, .inl ⟨rfl, rfl⟩⟩, ?_, HU0.out.newer hU1 (by intro b hb; simp at hb; right; omega)⟩
      · cases h40 : takes 40 l with
        | true =>
          have e : left 40 l = l.tail := by unfold left; rw [show (l.head? == some 40) = true from h40]; rfl
          rw [e]
          have hne : l ≠ [] := by rintro rfl; simp [takes] at h40
          have : l.tail.length < l.length := by
            cases l with
            | nil => exact absurd rfl hne
            | cons c t => simp
          exact ⟨h40, l.length, this, by simp; omega, by cases argsL l.length l.tail <;> simp⟩
        | false =>
          have e : left 40 l = l := by unfold left; rw [show (l.head? == some 40) = false from h40]; rfl
          rw [e]
          exact ⟨by unfold descL; rw [if_neg hbig, h40]; rfl, by omega⟩
      · intro k hk; simp [Value.ob, Value.ownBlock] at hk
    clear Ht HU0 HD0 HR0 hC1 hU1
    go_wp2
    go_step3
    go_wp2
    go_loopw [6] (fun t wr => descInv l w t wr) (fun t wr => descM w t wr)
    case atStart => exact hI.out
    case round =>
      clear hI
      obtain ⟨ok, n, b, l', v, xs, rfl, hq, hC, hD, hR, hown, hv, hU⟩ := hrel
      have r0 := hR.cell 0
      have r1 := hR.cell 1
      have r2 := hR.cell 2
      have r3 := hR.cell 3
      have rf0 := hR.frozen 0
      have rf1 := hR.frozen 1
      have rf2 := hR.frozen 2
      have rf3 := hR.frozen 3
      simp at r0 r1 r2 r3
      cases ok with
      | false =>
        have hd : Hid (descL l = (0, 4)) := hq.out.1
        go_wp2
        have hR4 := (((hR.set_ 0 (.slice none 0 0)).set_ 1 (.bool false)).set_ 2 (.int .i64 0)).set_ 3 (.string ⟨#[]⟩)
        have g0 := hR4.cell 0
        have g1 := hR4.cell 1
        have g2 := hR4.cell 2
        have g3 := hR4.cell 3
        simp at g0 g1 g2 g3
        rw [Exit.noGoto_ret]
        refine bodyPost_ret (v := .tuple #[.agg #[.slice none 0 0, .bool false, .int .i64 0, .string ⟨#[]⟩], .int .i64 4]) (by simp [results, Tryz.results125, go_sem, g0, g1, g2, g3]) rfl ?_
        rw [hd.out]
        exact ⟨⟨none, 0, false, 0, [], rfl, fun h => by simp at h⟩, (((hU.setCell (.inr (Nat.le_refl _)) _).setCell (.inr (Nat.le_refl _)) _).setCell (.inr (Nat.le_refl _)) _).setCell (.inr (Nat.le_refl _)) _⟩
      | true =>
        have hlen : l'.length ≤ 2000 := by obtain ⟨_, k, h1, h2, _⟩ := hq.out; omega
        have Ht := hid (take_any (w.heap.size + 1) l' b 41 41 _ rfl hC (by omega))
        cases h41 : takes 41 l' with
        | true =>
          rw [h41] at Ht
          go_wp2_with fail
          refine Ht.out.mono ?_
          rintro e w2 ⟨rfl, hC2, hU2⟩
          have hD2 := hU2.blk hD (by simp)
          have hR2 := hU2.blk hR (by simp)
          have hU3 := hU.newer hU2 (by intro b hb; simp at hb; right; omega)
          obtain ⟨A, cap, rfl, hcap⟩ := own_slice hown
          obtain ⟨r, hr⟩ : ∃ r, left 41 l' = r := ⟨_, rfl⟩
          rw [hr] at hC2
          have hr2 : l'.tail = r := by rw [← hr]; unfold left; rw [show (l'.head? == some 41) = true from h41]; rfl
          have hrl : r.length ≤ 2000 := by rw [← hr2]; simp; omega
          have hn : n ≤ 2000 := by obtain ⟨_, k, h1, h2, _⟩ := hq.out; omega
          have hdesc : descL l = (if takes 86 r then (if r.tail = [] then (if b || decide (20 < n) then ((0, 5) : Nat × Int) else (n, 0)) else (0, 4))
              else match oneL r with
                | some (_, []) => if wideOr b (lead r) || decide (20 < n) then (0, 5) else (n, 0)
                | _ => (0, 4)) := by
            obtain ⟨h40, k, h1, h2, h3⟩ := hq.out
            obtain ⟨k, rfl⟩ : ∃ m, k = m + 1 := ⟨k - 1, by omega⟩
            have h4 : argsL (k + 1) l' = some (0, false, r) := by unfold argsL; rw [h41, hr2]; rfl
            rw [h4] at h3
            unfold descL
            rw [if_neg hbig, h40, if_pos rfl, h3]
            simp only [Option.map_some, Nat.zero_add, Bool.false_or]
            try rfl
          have q1 : takes 86 r = true → r.tail ≠ [] → Hid (descL l = (0, 4)) := fun h1 h2 => hid (by rw [hdesc, h1, if_pos rfl, if_neg h2])
          have q2 : takes 86 r = true → r.tail = [] → (b || decide (20 < n)) = true → Hid (descL l = (0, 5)) := fun h1 h2 h3 => hid (by rw [hdesc, h1, if_pos rfl, if_pos h2, h3]; rfl)
          have q3 : takes 86 r = true → r.tail = [] → (b || decide (20 < n)) = false → Hid (descL l = (n, 0)) := fun h1 h2 h3 => hid (by rw [hdesc, h1, if_pos rfl, if_pos h2, h3]; rfl)
          have q4 : takes 86 r = false → oneL r = none → Hid (descL l = (0, 4)) := fun h1 h2 => hid (by rw [hdesc, h1, if_neg (by simp), h2])
          have q5 : takes 86 r = false → ∀ nm c t, oneL r = some (nm, c :: t) → Hid (descL l = (0, 4)) := fun h1 nm c t h2 => hid (by rw [hdesc, h1, if_neg (by simp), h2])
          have q6 : takes 86 r = false → ∀ nm, oneL r = some (nm, []) → (wideOr b (lead r) || decide (20 < n)) = true → Hid (descL l = (0, 5)) := fun h1 nm h2 h3 => hid (by rw [hdesc, h1, if_neg (by simp), h2]; simp only [h3]; rfl)
          have hvoid : voidL l = takes 86 r := by
            obtain ⟨h40, k, h1, h2, h3⟩ := hq.out
            obtain ⟨k, rfl⟩ : ∃ m, k = m + 1 := ⟨k - 1, by omega⟩
            have h4 : argsL (k + 1) l' = some (0, false, r) := by unfold argsL; rw [h41, hr2]; rfl
            rw [h4] at h3
            unfold voidL
            rw [h3]
            rfl
          have Hvoid := hid hvoid
          have q7 : takes 86 r = false → ∀ nm, oneL r = some (nm, []) → (wideOr b (lead r) || decide (20 < n)) = false → Hid (descL l = (n, 0)) := fun h1 nm h2 h3 => hid (by rw [hdesc, h1, if_neg (by simp), h2]; simp only [h3]; rfl)
          have Q1 := hid q1
          have Q2 := hid q2
          have Q3 := hid q3
          have Q4 := hid q4
          have Q5 := hid q5
          have Q6 := hid q6
          have Q7 := hid q7
          clear q1 q2 q3 q4 q5 q6 q7 hvoid hdesc hq Ht r0 r1 r2 r3 rf0 rf1 rf2 rf3 hC hD hR hr hr2 h41 hlen
          have Ht := hid (take_any (w.heap.size + 1) r b 86 86 _ rfl hC2 (by omega))
          go_wp2_with fail
          refine Ht.out.mono ?_
          rintro e w3 ⟨rfl, hC3, hU4⟩
          have hD3 := hU4.blk hD2 (by simp)
          have hR3 := hU4.blk hR2 (by simp)
          have hU5 := hU3.newer hU4 (by intro b hb; simp at hb; right; omega)
          have d0 := hD3.cell 0
          have d1 := hD3.cell 1
          have df1 := hD3.frozen 1
          simp at d0 d1
          clear Ht hU2 hU4 hC2
          cases h86 : takes 86 r with
          | true =>
            have hl86 : left 86 r = r.tail := by unfold left; rw [show (r.head? == some 86) = true from h86]; rfl
            rw [hl86] at hC3
            have hC4 := hC3.far (p := ⟨w.heap.size + 1 + 1, 1, none⟩) (by simp) (.bool true)
            have hD4 := hD3.set_ 1 (.bool true)
            have hR4 := hR3.far (p := ⟨w.heap.size + 1 + 1, 1, none⟩) (by simp; omega) (.bool true)
            have hU6 := hU5.setCell (p := ⟨w.heap.size + 1 + 1, 1, none⟩) (.inr (by simp; omega)) (.bool true)
            have c0 := hC4.cell 0
            have c1 := hC4.cell 1
            have e0 := hD4.cell 0
            have e1 := hD4.cell 1
            have e2 := hD4.cell 2
            have e3 := hD4.cell 3
            have r0 := hR4.cell 0
            have r1 := hR4.cell 1
            have r2 := hR4.cell 2
            have r3 := hR4.cell 3
            have rf0 := hR4.frozen 0
            have rf1 := hR4.frozen 1
            have rf2 := hR4.frozen 2
            have rf3 := hR4.frozen 3
            simp at c0 c1 e0 e1 e2 e3 r0 r1 r2 r3
            by_cases hrt : r.tail = []
            · rw [hrt, show bs ([] : List UInt8) = ⟨#[]⟩ from rfl] at c0
              cases hbn : (b || decide (20 < n)) with
              | true =>
                have DE := Q2.out h86 hrt hbn
                clear Q1 Q2 Q3 Q4 Q5 Q6 Q7
                cases b
                all_goals
                  simp at hbn
                  go_wp2
                  have hR9 := (((hR4.set_ 0 (.slice none 0 0)).set_ 1 (.bool false)).set_ 2 (.int .i64 0)).set_ 3 (.string ⟨#[]⟩)
                  have g0 := hR9.cell 0
                  have g1 := hR9.cell 1
                  have g2 := hR9.cell 2
                  have g3 := hR9.cell 3
                  simp at g0 g1 g2 g3
                  rw [Exit.noGoto_ret]
                  refine bodyPost_ret (v := .tuple #[.agg #[.slice none 0 0, .bool false, .int .i64 0, .string ⟨#[]⟩], .int .i64 5]) (by simp [results, Tryz.results125, go_sem, g0, g1, g2, g3]) rfl ?_
                  rw [DE.out]
                  exact ⟨⟨none, 0, false, 0, [], rfl, fun h => by simp at h⟩, (((hU6.setCell (.inr (Nat.le_refl _)) _).setCell (.inr (Nat.le_refl _)) _).setCell (.inr (Nat.le_refl _)) _).setCell (.inr (Nat.le_refl _)) _⟩
              | false =>
                have DE := Q3.out h86 hrt hbn
                clear Q1 Q2 Q3 Q4 Q5 Q6 Q7
                simp at hbn
                obtain ⟨rfl, hn20⟩ := hbn
                go_wp2
                have hR9 := (((hR4.set_ 0 (.slice A n cap)).set_ 1 (.bool true)).set_ 2 (.int .i64 0)).set_ 3 (.string ⟨#[]⟩)
                have g0 := hR9.cell 0
                have g1 := hR9.cell 1
                have g2 := hR9.cell 2
                have g3 := hR9.cell 3
                simp at g0 g1 g2 g3
                rw [Exit.noGoto_ret]
                refine bodyPost_ret (v := .tuple #[.agg #[.slice A n cap, .bool true, .int .i64 0, .string ⟨#[]⟩], .int .i64 0]) (by simp [results, Tryz.results125, go_sem, g0, g1, g2, g3]) rfl ?_
                rw [DE.out]
                exact ⟨⟨A, cap, true, 0, [], rfl, fun _ => by rw [Hvoid.out, h86]⟩, (((hU6.setCell (.inr (Nat.le_refl _)) _).setCell (.inr (Nat.le_refl _)) _).setCell (.inr (Nat.le_refl _)) _).setCell (.inr (Nat.le_refl _)) _⟩
            · have DE := Q1.out h86 hrt
              have he : (bs r.tail).toList.isEmpty = false := by rw [bs_toList]; simpa using hrt
              have he2 : ¬ (bs r.tail).toList = [] := by rw [bs_toList]; exact hrt
              clear Q1 Q2 Q3 Q4 Q5 Q6 Q7
              go_wp2
              have hR9 := (((hR4.set_ 0 (.slice none 0 0)).set_ 1 (.bool false)).set_ 2 (.int .i64 0)).set_ 3 (.string ⟨#[]⟩)
              have g0 := hR9.cell 0
              have g1 := hR9.cell 1
              have g2 := hR9.cell 2
              have g3 := hR9.cell 3
              simp at g0 g1 g2 g3
              rw [Exit.noGoto_ret]
              refine bodyPost_ret (v := .tuple #[.agg #[.slice none 0 0, .bool false, .int .i64 0, .string ⟨#[]⟩], .int .i64 4]) (by simp [results, Tryz.results125, go_sem, g0, g1, g2, g3]) rfl ?_
              rw [DE.out]
              exact ⟨⟨none, 0, false, 0, [], rfl, fun h => by simp at h⟩, (((hU6.setCell (.inr (Nat.le_refl _)) _).setCell (.inr (Nat.le_refl _)) _).setCell (.inr (Nat.le_refl _)) _).setCell (.inr (Nat.le_refl _)) _⟩
          | false =>
            have hl86 : left 86 r = r := by unfold left; rw [show (r.head? == some 86) = false from h86]; rfl
            rw [hl86] at hC3
            have hC4 := hC3.far (p := ⟨w.heap.size + 1 + 1, 1, none⟩) (by simp) (.bool false)
            have hD4 := hD3.set_ 1 (.bool false)
            have hR4 := hR3.far (p := ⟨w.heap.size + 1 + 1, 1, none⟩) (by simp; omega) (.bool false)
            have hU6 := hU5.setCell (p := ⟨w.heap.size + 1 + 1, 1, none⟩) (.inr (by simp; omega)) (.bool false)
            have d1' := hD4.cell 1
            have hz := hid (one_any (w.heap.size + 1) r b _ hC4 hrl (hm.upd hU6 (by simp)))
            simp at d1'
            go_wp2_with fail
            refine hz.out.mono ?_
            rintro e w5 ⟨nm, l5, hU7, hC5, hl5, hres⟩
            have hD5 := hU7.blk hD4 (by simp)
            have hR5 := hU7.blk hR4 (by simp)
            have hU8 := hU6.newer hU7 (by intro b hb; simp at hb; right; omega)
            have x2 := hD5.cell 2
            have x3 := hD5.cell 3
            have xf2 := hD5.frozen 2
            have xf3 := hD5.frozen 3
            simp at x2 x3
            have hC7 := (hC5.far (p := ⟨w.heap.size + 1 + 1, 2, none⟩) (by simp) (.int .i64 (lead r))).far (p := ⟨w.heap.size + 1 + 1, 3, none⟩) (by simp) (.string (bs nm))
            have hD7 := (hD5.set_ 2 (.int .i64 (lead r))).set_ 3 (.string (bs nm))
            have hR7 := (hR5.far (p := ⟨w.heap.size + 1 + 1, 2, none⟩) (by simp; omega) (.int .i64 (lead r))).far (p := ⟨w.heap.size + 1 + 1, 3, none⟩) (by simp; omega) (.string (bs nm))
            have hU9 := (hU8.setCell (p := ⟨w.heap.size + 1 + 1, 2, none⟩) (.inr (by simp; omega)) (.int .i64 (lead r))).setCell (p := ⟨w.heap.size + 1 + 1, 3, none⟩) (.inr (by simp; omega)) (.string (bs nm))
            have c0 := hC7.cell 0
            have c1 := hC7.cell 1
            have e0 := hD7.cell 0
            have e1 := hD7.cell 1
            have e2 := hD7.cell 2
            have e3 := hD7.cell 3
            have r0 := hR7.cell 0
            have r1 := hR7.cell 1
            have r2 := hR7.cell 2
            have r3 := hR7.cell 3
            have rf0 := hR7.frozen 0
            have rf1 := hR7.frozen 1
            have rf2 := hR7.frozen 2
            have rf3 := hR7.frozen 3
            simp at c0 c1 e0 e1 e2 e3 r0 r1 r2 r3
            clear hz hU7 hC3 hC4 hU5 hU6 hD3 hR3
            rcases hres with ⟨ho, rfl⟩ | ⟨ho, rfl⟩
            · have DE := Q4.out h86 ho
              clear Q1 Q2 Q3 Q4 Q5 Q6 Q7
              unfold ty
              go_wp2
              have hR9 := (((hR7.set_ 0 (.slice none 0 0)).set_ 1 (.bool false)).set_ 2 (.int .i64 0)).set_ 3 (.string ⟨#[]⟩)
              have g0 := hR9.cell 0
              have g1 := hR9.cell 1
              have g2 := hR9.cell 2
              have g3 := hR9.cell 3
              simp at g0 g1 g2 g3
              rw [Exit.noGoto_ret]
              refine bodyPost_ret (v := .tuple #[.agg #[.slice none 0 0, .bool false, .int .i64 0, .string ⟨#[]⟩], .int .i64 4]) (by simp [results, Tryz.results125, go_sem, g0, g1, g2, g3]) rfl ?_
              rw [DE.out]
              exact ⟨⟨none, 0, false, 0, [], rfl, fun h => by simp at h⟩, (((hU9.setCell (.inr (Nat.le_refl _)) _).setCell (.inr (Nat.le_refl _)) _).setCell (.inr (Nat.le_refl _)) _).setCell (.inr (Nat.le_refl _)) _⟩
            · rcases l5 with _ | ⟨c, t⟩
              · rw [show bs ([] : List UInt8) = ⟨#[]⟩ from rfl] at c0
                cases hbn : (wideOr b (lead r) || decide (20 < n)) with
                | true =>
                  have DE := Q6.out h86 nm ho hbn
                  clear Q1 Q2 Q3 Q4 Q5 Q6 Q7
                  generalize wideOr b (lead r) = wd at c1 hbn
                  unfold ty
                  cases wd
                  all_goals
                    simp at hbn
                    go_wp2
                    have hR9 := (((hR7.set_ 0 (.slice none 0 0)).set_ 1 (.bool false)).set_ 2 (.int .i64 0)).set_ 3 (.string ⟨#[]⟩)
                    have g0 := hR9.cell 0
                    have g1 := hR9.cell 1
                    have g2 := hR9.cell 2
                    have g3 := hR9.cell 3
                    simp at g0 g1 g2 g3
                    rw [Exit.noGoto_ret]
                    refine bodyPost_ret (v := .tuple #[.agg #[.slice none 0 0, .bool false, .int .i64 0, .string ⟨#[]⟩], .int .i64 5]) (by simp [results, Tryz.results125, go_sem, g0, g1, g2, g3]) rfl ?_
                    rw [DE.out]
                    exact ⟨⟨none, 0, false, 0, [], rfl, fun h => by simp at h⟩, (((hU9.setCell (.inr (Nat.le_refl _)) _).setCell (.inr (Nat.le_refl _)) _).setCell (.inr (Nat.le_refl _)) _).setCell (.inr (Nat.le_refl _)) _⟩
                | false =>
                  have DE := Q7.out h86 nm ho hbn
                  clear Q1 Q2 Q3 Q4 Q5 Q6 Q7
                  generalize wideOr b (lead r) = wd at c1 hbn
                  unfold ty
                  simp at hbn
                  obtain ⟨rfl, hn20⟩ := hbn
                  go_wp2
                  have hR9 := (((hR7.set_ 0 (.slice A n cap)).set_ 1 (.bool false)).set_ 2 (.int .i64 (lead r))).set_ 3 (.string (bs nm))
                  have g0 := hR9.cell 0
                  have g1 := hR9.cell 1
                  have g2 := hR9.cell 2
                  have g3 := hR9.cell 3
                  simp at g0 g1 g2 g3
                  rw [Exit.noGoto_ret]
                  refine bodyPost_ret (v := .tuple #[.agg #[.slice A n cap, .bool false, .int .i64 (lead r), .string (bs nm)], .int .i64 0]) (by simp [results, Tryz.results125, go_sem, g0, g1, g2, g3]) rfl ?_
                  rw [DE.out]
                  exact ⟨⟨A, cap, false, lead r, nm, rfl, fun _ => by rw [Hvoid.out, h86]⟩, (((hU9.setCell (.inr (Nat.le_refl _)) _).setCell (.inr (Nat.le_refl _)) _).setCell (.inr (Nat.le_refl _)) _).setCell (.inr (Nat.le_refl _)) _⟩
              · have DE := Q5.out h86 nm c t ho
                have he : (bs (c :: t)).toList.isEmpty = false := by rw [bs_toList]; rfl
                have he2 : ¬ (bs (c :: t)).toList = [] := by rw [bs_toList]; simp
                clear Q1 Q2 Q3 Q4 Q5 Q6 Q7
                unfold ty
                go_wp2
                have hR9 := (((hR7.set_ 0 (.slice none 0 0)).set_ 1 (.bool false)).set_ 2 (.int .i64 0)).set_ 3 (.string ⟨#[]⟩)
                have g0 := hR9.cell 0
                have g1 := hR9.cell 1
                have g2 := hR9.cell 2
                have g3 := hR9.cell 3
                simp at g0 g1 g2 g3
                rw [Exit.noGoto_ret]
                refine bodyPost_ret (v := .tuple #[.agg #[.slice none 0 0, .bool false, .int .i64 0, .string ⟨#[]⟩], .int .i64 4]) (by simp [results, Tryz.results125, go_sem, g0, g1, g2, g3]) rfl ?_
                rw [DE.out]
                exact ⟨⟨none, 0, false, 0, [], rfl, fun h => by simp at h⟩, (((hU9.setCell (.inr (Nat.le_refl _)) _).setCell (.inr (Nat.le_refl _)) _).setCell (.inr (Nat.le_refl _)) _).setCell (.inr (Nat.le_refl _)) _⟩
        | false =>
          have hleft : left 41 l' = l' := by unfold left; rw [show (l'.head? == some 41) = false from h41]; rfl
          rw [h41, hleft] at Ht
          have hn : n ≤ 2000 := by obtain ⟨_, k, h1, h2, _⟩ := hq.out; omega
          obtain ⟨A, cap, rfl, hcap⟩ := own_slice hown
          go_wp2_with fail
          refine Ht.out.mono ?_
          rintro e w2 ⟨rfl, hC2, hU2⟩
          have hT0 : Blk (w2.alloc (.cells #[.int .i64 0, .string ⟨#[]⟩] 179)) w2.heap.size 179 #[.int .i64 0, .string ⟨#[]⟩] := Blk.new _ _ _
          have hU3 := hU2.alloc (.cells #[.int .i64 0, .string ⟨#[]⟩] 179)
          have hU3' := (hU.newer hU2 (by intro b hb; simp at hb; right; omega)).alloc (.cells #[.int .i64 0, .string ⟨#[]⟩] 179)
          have hz := hid (one_any (w.heap.size + 1) l' b _ (hC2.alloc (.cells #[.int .i64 0, .string ⟨#[]⟩] 179)) hlen (hm.upd hU3' (by simp)))
          have hDlt := hD.lt
          have hs2 := hU2.size
          go_wp2_with fail
          refine hz.out.mono ?_
          rintro e w5 ⟨nm, l5, hU7, hC5, hl5, hres⟩
          have hT5 := hU7.blk hT0 (by simp; omega)
          have hU8 := hU3.trans hU7
          have hU8' := hU3'.newer hU7 (by intro b hb; simp at hb; right; omega)
          have x0 := hT5.cell 0
          have x1 := hT5.cell 1
          have xf0 := hT5.frozen 0
          have xf1 := hT5.frozen 1
          simp at x0 x1
          have hT6 := (hT5.set_ 0 (.int .i64 (lead l'))).set_ 1 (.string (bs nm))
          have hU9 := (hU8.setCell (p := ⟨w2.heap.size, 0, none⟩) (.inr hs2) (.int .i64 (lead l'))).setCell (p := ⟨w2.heap.size, 1, none⟩) (.inr hs2) (.string (bs nm))
          have hU9' := (hU8'.setCell (p := ⟨w2.heap.size, 0, none⟩) (.inr (by simp; omega)) (.int .i64 (lead l'))).setCell (p := ⟨w2.heap.size, 1, none⟩) (.inr (by simp; omega)) (.string (bs nm))
          have hC6 := (hC5.far (p := ⟨w2.heap.size, 0, none⟩) (by simp; omega) (.int .i64 (lead l'))).far (p := ⟨w2.heap.size, 1, none⟩) (by simp; omega) (.string (bs nm))
          have hD6 := hU9.blk hD (by simp)
          have hR6 := hU9.blk hR (by simp)
          have hown6 := hU9.own hown (by intro k hk hk2; have := hv k hk; simp at hk2; omega)
          have y0 := hT6.cell 0
          have y1 := hT6.cell 1
          have e0 := hD6.cell 0
          simp at y0 y1 e0
          rcases hres with ⟨ho, rfl⟩ | ⟨ho, rfl⟩
          · have hDE : Hid (descL l = (0, 4)) := by
              obtain ⟨h40, k, h1, h2, h3⟩ := hq.out
              obtain ⟨k, rfl⟩ : ∃ m, k = m + 1 := ⟨k - 1, by omega⟩
              have h4 : argsL (k + 1) l' = none := by unfold argsL; rw [h41, if_neg (by simp), ho]
              rw [h4] at h3
              refine hid ?_
              unfold descL
              rw [if_neg hbig, h40, if_pos rfl, h3]
              rfl
            unfold ty
            go_wp2_with (at_builtin; go_must (refine wpList_append_one _ rfl (.tmp 31) (.tmp 33) 177 rfl 179 i0 _ 2 24 Tryz.underlying177 hi0 hz0 hz1 hz2 rfl (by decide) (by decide) (.slice A n cap) n xs rfl (by exact hown6.alloc _) (by omega) w5.heap.size 179 #[.int .i64 (lead l'), .string (bs nm)] rfl (by exact Blk.new_at (by simp)) rfl rfl ?_); intro g' cap' w9 hown' hg' hat'; have hD9 := (hD6.alloc (.cells #[.int .i64 (lead l'), .string (bs nm)] 179)).grown hg' (by intro h; have := hv _ (mem_ob.2 h.symm); omega); have e0' := hD9.cell 0; have ef0' := hD9.frozen 0; simp at e0')
            go_wp2
            have hU10 : Upd w w9 [] := (hU9'.alloc (.cells #[.int .i64 (lead l'), .string (bs nm)] 179)).grown hg' (by intro k hk; have := hv _ (mem_ob.2 hk); right; omega)
            have hC9 := ((hC6.alloc (.cells #[.int .i64 (lead l'), .string (bs nm)] 179)).grown hg' (by intro h; have := hv _ (mem_ob.2 h.symm); omega)).far (p := ⟨w.heap.size + 1 + 1, 0, none⟩) (by simp) (.slice (some ⟨g', 0, none⟩) (n + 1) cap')
            have hR9 := ((hR6.alloc (.cells #[.int .i64 (lead l'), .string (bs nm)] 179)).grown hg' (by intro h; have := hv _ (mem_ob.2 h.symm); omega)).far (p := ⟨w.heap.size + 1 + 1, 0, none⟩) (by simp; omega) (.slice (some ⟨g', 0, none⟩) (n + 1) cap')
            have hD10 := hD9.set_ 0 (.slice (some ⟨g', 0, none⟩) (n + 1) cap')
            have hgD : w.heap.size + 1 + 1 < g' := by
              rcases hat' with h | h
              · exact hv _ (mem_ob.2 h)
              · simp at h; have := hU9'.size; simp at this; have := hU9.size; simp at this; omega
            have hown10 := ownsRow_setCell_other (a := ⟨w.heap.size + 1 + 1, 0, none⟩) hown' (by simp [Value.ownBlock]; omega) (.slice (some ⟨g', 0, none⟩) (n + 1) cap')
            have hU11 := hU10.setCell (p := ⟨w.heap.size + 1 + 1, 0, none⟩) (.inr (by simp; omega)) (.slice (some ⟨g', 0, none⟩) (n + 1) cap')
            have hv10 : ∀ k, k ∈ Value.ob (.slice (some ⟨g', 0, none⟩) (n + 1) cap') → w.heap.size + 1 + 1 < k := by
              intro k hk
              have := mem_ob.1 hk
              simp [Value.ownBlock] at this
              omega
            have c9 := hC9.cell 0
            have cC := hC.cell 0
            simp at c9 cC
            go_roundw
            case rel => exact ⟨false, n + 1, _, l5, _, _, rfl, hid ⟨hDE.out, by omega⟩, hC9, hD10, hR9, hown10, hv10, hU11⟩
            case measure =>
              simp [descM, cC]
          · have hDE : Hid (descRel l true (n + 1) (wideOr b (lead l')) l5) := by
              obtain ⟨h40, k, h1, h2, h3⟩ := hq.out
              obtain ⟨k, rfl⟩ : ∃ m, k = m + 1 := ⟨k - 1, by omega⟩
              have h4 : argsL (k + 1) l' = (argsL k l5).map fun q => (q.1 + 1, wideOr q.2.1 (lead l'), q.2.2) := by
                rw [argsL, h41, if_neg (by simp), ho]
              have h5 := oneL_lt ho
              simp at h5
              refine hid ⟨h40, k, by omega, by omega, ?_⟩
              rw [h3, h4, Option.map_map]
              congr 1
              funext q
              simp only [Function.comp]
              have : (wideOr q.2.1 (lead l') || b) = (q.2.1 || wideOr b (lead l')) := by unfold wideOr; cases q.2.1 <;> cases b <;> simp
              rw [this, Nat.add_assoc, Nat.add_comm 1 n]
            have h5 := oneL_lt ho
            simp at h5
            unfold ty
            go_wp2_with (at_builtin; go_must (refine wpList_append_one _ rfl (.tmp 31) (.tmp 33) 177 rfl 179 i0 _ 2 24 Tryz.underlying177 hi0 hz0 hz1 hz2 rfl (by decide) (by decide) (.slice A n cap) n xs rfl (by exact hown6.alloc _) (by omega) w5.heap.size 179 #[.int .i64 (lead l'), .string (bs nm)] rfl (by exact Blk.new_at (by simp)) rfl rfl ?_); intro g' cap' w9 hown' hg' hat'; have hD9 := (hD6.alloc (.cells #[.int .i64 (lead l'), .string (bs nm)] 179)).grown hg' (by intro h; have := hv _ (mem_ob.2 h.symm); omega); have e0' := hD9.cell 0; have ef0' := hD9.frozen 0; simp at e0')
            go_wp2
            have hU10 : Upd w w9 [] := (hU9'.alloc (.cells #[.int .i64 (lead l'), .string (bs nm)] 179)).grown hg' (by intro k hk; have := hv _ (mem_ob.2 hk); right; omega)
            have hC9 := ((hC6.alloc (.cells #[.int .i64 (lead l'), .string (bs nm)] 179)).grown hg' (by intro h; have := hv _ (mem_ob.2 h.symm); omega)).far (p := ⟨w.heap.size + 1 + 1, 0, none⟩) (by simp) (.slice (some ⟨g', 0, none⟩) (n + 1) cap')
            have hR9 := ((hR6.alloc (.cells #[.int .i64 (lead l'), .string (bs nm)] 179)).grown hg' (by intro h; have := hv _ (mem_ob.2 h.symm); omega)).far (p := ⟨w.heap.size + 1 + 1, 0, none⟩) (by simp; omega) (.slice (some ⟨g', 0, none⟩) (n + 1) cap')
            have hD10 := hD9.set_ 0 (.slice (some ⟨g', 0, none⟩) (n + 1) cap')
            have hgD : w.heap.size + 1 + 1 < g' := by
              rcases hat' with h | h
              · exact hv _ (mem_ob.2 h)
              · simp at h; have := hU9'.size; simp at this; have := hU9.size; simp at this; omega
            have hown10 := ownsRow_setCell_other (a := ⟨w.heap.size + 1 + 1, 0, none⟩) hown' (by simp [Value.ownBlock]; omega) (.slice (some ⟨g', 0, none⟩) (n + 1) cap')
            have hU11 := hU10.setCell (p := ⟨w.heap.size + 1 + 1, 0, none⟩) (.inr (by simp; omega)) (.slice (some ⟨g', 0, none⟩) (n + 1) cap')
            have hv10 : ∀ k, k ∈ Value.ob (.slice (some ⟨g', 0, none⟩) (n + 1) cap') → w.heap.size + 1 + 1 < k := by
              intro k hk
              have := mem_ob.1 hk
              simp [Value.ownBlock] at this
              omega
            have c9 := hC9.cell 0
            have cC := hC.cell 0
            simp at c9 cC
            go_roundw
            case rel => exact ⟨true, n + 1, _, l5, _, _, rfl, hDE, hC9, hD10, hR9, hown10, hv10, hU11⟩
            case measure =>
              simp [descM, cC, c9, bs_size]
              omega
end Go.Proofs.YtfpdeiefkimaaaaGreatDoor
/-
  The document's ParseDesc, with what it says of void. (Printed by gen_refEV.py.)
-/
set_option linter.unusedSimpArgs false
set_option linter.unusedVariables false
namespace Go.Proofs.YtfpdeiefkimaaaaGreatDoor
open Go.RowKit

end Go.Proofs.YtfpdeiefkimaaaaGreatDoor
