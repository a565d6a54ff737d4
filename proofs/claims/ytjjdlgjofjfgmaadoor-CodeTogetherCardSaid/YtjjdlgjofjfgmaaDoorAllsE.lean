/-
  The law CodeAlls, walked.
-/
import Derived.Test.YtjjdlgjofjfgmaaDoorAllsD
set_option linter.unusedSimpArgs false
set_option linter.unusedVariables false
namespace Go.Proofs.YtjjdlgjofjfgmaaDoor
open Go.RowKit Go.Sort

def two : List InstL := [⟨-71, 0, [], noRefL⟩, ⟨-72, 0, [], noRefL⟩]

theorem two_at (w : World) : InstsAt (w.alloc (.cells #[.int .i64 (-71), .int .i64 0, .string ⟨#[]⟩, .bool false, .string ⟨#[]⟩, .string ⟨#[]⟩, .string ⟨#[]⟩, .int .i64 (-72), .int .i64 0, .string ⟨#[]⟩, .bool false, .string ⟨#[]⟩, .string ⟨#[]⟩, .string ⟨#[]⟩] 25)) (some ⟨w.heap.size, 0, none⟩) two := by
  intro _
  refine ⟨w.heap.size, 0, rfl, by simp, fun i hi j hj => ?_⟩
  have hb := fun t cs => (Blk.new w t cs).cell (0 + i * 7 + j)
  rw [hb]
  obtain rfl | rfl : i = 0 ∨ i = 1 := by simp [two] at hi; omega
  all_goals obtain rfl | rfl | rfl | rfl | rfl | rfl | rfl : j = 0 ∨ j = 1 ∨ j = 2 ∨ j = 3 ∨ j = 4 ∨ j = 5 ∨ j = 6 := by omega
  all_goals rfl

set_option maxHeartbeats 8000000 in
set_option maxRecDepth 1000000 in
theorem codeAlls_walk (A : Option Addr) (cap : Nat) (l : List InstL) (locals : Int) (w : World) (hA : InstsAt w A l) (hl : l.length * 88 ≤ 140737488351232) (hfit : ∀ i, i ∈ l → i.fit) (hm : Rdy w) :
    Calls Tryd.prog 4 #[.slice A l.length cap, .int .i64 locals] w fun e w' => e = .returned (.bool true) ∧ Upd w w' [] := by
  have Haw := fun w hm => hid (awake_any w hm)
  go_enter Tryd.func4, Tryd.ntmps4
  go_wp2_with fail
  refine (Haw _ hm).out.mono ?_
  rintro e w1 ⟨rfl, hU1⟩
  have hA1 := hA.upd hU1
  have hm1 := hm.upd hU1
  have hown0 : Owns (w1.alloc (.cells #[] 25)) w1.heap.size (.slice (some ⟨w1.heap.size, 0, none⟩) 0 0) [] := World.ownsRow_made w1 #[] 0 (Nat.le_refl _) (by simp [maxLen]) rfl
  have hA2 : InstsAt (w1.alloc (.cells #[] 25)) A l := hA1.upd ((Upd.refl _ _).alloc _)
  go_wp2_with (at_builtin; (first
    | (refine wpList_app _ rfl (.tmp 12) (.tmp 13) rfl w1.heap.size [] l (.slice (some ⟨w1.heap.size, 0, none⟩) 0 0) A l.length cap rfl hown0 rfl rfl hA2 (by simp; omega) (by simp) ?_
       intro v1 w2 hown1 hg1 hat1
       have hb1 : Below w1.heap.size w1 w2 := ((Below.refl _ _).alloc (Nat.le_refl _) _).grown hg1 (by simp) (by simp [Value.ownBlock]))
    | (refine wpList_app _ rfl (.tmp 14) (.tmp 17) rfl w1.heap.size l two v1 (some ⟨w2.heap.size, 0, none⟩) 2 2 rfl (hown1.alloc _) rfl rfl (two_at _) (by simp [two]; omega) (by have := hb1.size; simp; omega) ?_
       intro v2 w3 hown2 hg2 hat2
       obtain ⟨g, cp, rfl, hgb, hgl, hcp, hI⟩ := hown2.form (l.length + 2) (by simp [two]) (by omega)
       have hb3 : Below w1.heap.size w1 w3 := (hb1.alloc hb1.size _).grown hg2 (by have := hb1.size; simp; omega) (fun k hk => by rcases hat1 with e | e <;> rw [e] at hk <;> simp [Value.ownBlock] at hk <;> omega))))
  have hm3 : MaxLenAt w3 := hm1.max.upd (Upd.of_below hb3 []) (by simp)
  have HC := hid (checkAll_any (some ⟨g, 0, none⟩) cp l locals w3 hI.head (by omega) hfit hm3)
  refine HC.out.mono ?_
  rintro e w4 ⟨rfl, hU4⟩
  have hA4 : InstsAt w4 A l := (hA1.upd (Upd.of_below hb3 [])).upd hU4
  have hI4 := hI.upd hU4
  have HD := hid (checkAllR_any A cap l locals w4 hA4 (by omega) hfit)
  go_wp2_with fail
  refine HD.out.mono ?_
  rintro e w5 ⟨rfl, hU5⟩
  have hA5 := hA4.upd hU5
  have hI5 := hI4.upd hU5
  generalize errIf (allOk l locals) = ek
  have HS := hid (sameCode_any (some ⟨g, 0, none⟩) A cp cap l w5 hI5.head hA5 (by omega))
  go_wp2_with fail
  refine HS.out.mono ?_
  rintro e w6 ⟨rfl, hU6⟩
  have hI6 := hI5.upd hU6
  have hg6 : g < w6.heap.size := by have := hU4.size; have := hU5.size; have := hU6.size; omega
  obtain ⟨b', o', e', -, hc6⟩ := hI6 (by simp [two])
  obtain ⟨rfl, rfl⟩ : b' = g ∧ o' = 0 := by injection e' with e'; injection e' with e1 e2; exact ⟨e1.symm, e2.symm⟩
  have y0 : w6.cell? ⟨b', l.length * 7, none⟩ = some (.int .i64 (-71)) := by
    have := hc6 l.length (by simp [two]) 0 (by omega)
    rw [List.getElem_append_right (Nat.le_refl _)] at this
    simpa [two, InstL.cells] using this
  have y1 : w6.cell? ⟨b', (l.length + 1) * 7, none⟩ = some (.int .i64 (-72)) := by
    have := hc6 (l.length + 1) (by simp [two]) 0 (by omega)
    rw [List.getElem_append_right (by omega)] at this
    simpa [two, InstL.cells] using this
  clear hc6 hI hI4 hI5 hI6 hA hA1 hA2 hA4 hA5 hown0 hown1 hown2 hg1 hg2 hat1 hat2
  go_wp2
  go_ret
  exact ⟨rfl, hU1.trans ((Upd.of_below hb3 []).trans (hU4.trans (hU5.trans hU6)))⟩
end Go.Proofs.YtjjdlgjofjfgmaaDoor
