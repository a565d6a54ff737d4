/-
  Package code, walked: Check.
-/
import Derived.Test.YtjjdlgjofjfgmaaDoorCodeC
set_option linter.unusedSimpArgs false
set_option linter.unusedVariables false
namespace Go.Proofs.YtjjdlgjofjfgmaaDoor
open Go.RowKit

theorem bs_beq (a b : List UInt8) : ((bs a).toList == (bs b).toList) = decide (a = b) := by
  rw [bs_toList, bs_toList, Bool.eq_iff_iff]
  simp
theorem eq_inst (i j : InstL) (w : World) : (Op.equalIn 10000 25 i.v j.v).run Tryd.prog w = .ok (decide (i = j)) w := by
  obtain ⟨o1, n1, t1, ⟨a1, c1, m1, d1⟩⟩ := i
  obtain ⟨o2, n2, t2, ⟨a2, c2, m2, d2⟩⟩ := j
  have e : decide (InstL.mk o1 n1 t1 ⟨a1, c1, m1, d1⟩ = InstL.mk o2 n2 t2 ⟨a2, c2, m2, d2⟩) = (decide (o1 = o2) && decide (n1 = n2) && decide (t1 = t2) && decide (a1 = a2) && decide (c1 = c2) && decide (m1 = m2) && decide (d1 = d2)) := by
    rw [Bool.eq_iff_iff]
    simp [and_assoc]
  rw [e]
  clear e
  unfold InstL.v InstL.cells
  simp [go_sem, bs_beq]
  repeat' split
  all_goals simp_all

def noRefL : RefL := ⟨false, [], [], []⟩
/-- The instruction with what its operand has alone. -/
def InstL.bare (i : InstL) : InstL :=
  if kindL i.op = 1 ∨ kindL i.op = 2 ∨ kindL i.op = 3 then ⟨i.op, i.n, [], noRefL⟩
  else if kindL i.op = 4 ∨ kindL i.op = 5 ∨ kindL i.op = 6 then ⟨i.op, 0, i.ty, noRefL⟩
  else if kindL i.op = 7 then ⟨i.op, i.n, i.ty, noRefL⟩
  else if kindL i.op = 8 then ⟨i.op, 0, [], i.ref⟩
  else ⟨i.op, 0, [], noRefL⟩
def InstL.ok (i : InstL) : Bool := decide (i.bare = i) && i.fine
def checkPost (i : InstL) (w : World) (e : Ending) (w' : World) : Prop := e = .returned (.int .i64 (errIf i.ok)) ∧ Upd w w' []

set_option maxHeartbeats 2000000 in
set_option maxRecDepth 100000 in
theorem check_any (i : InstL) (w : World) (hi : i.fit) (hm : MaxLenAt w) : Calls Tryd.prog 14 #[i.v] w (checkPost i w) := by
  obtain ⟨op, n, ty, r⟩ := i
  have hU0 : Upd w (w.alloc (.cells #[.int .i64 op, .int .i64 n, .string (bs ty), .bool r.ifc, .string (bs r.cls), .string (bs r.nm), .string (bs r.ds)] 25)) [] := (Upd.refl _ _).alloc _
  have Hop := fun w => hid (operand_any op w)
  have Hin := fun w hm => hid (operandIn_any ⟨op, n, ty, r⟩ w hi hm)
  have hok : ∀ b c, decide ((InstL.mk op n ty r).bare = ⟨op, n, ty, r⟩) = b → (InstL.mk op n ty r).fine = c → (InstL.mk op n ty r).ok = (b && c) := fun b c h1 h2 => by rw [← h1, ← h2]; rfl
  unfold finePost at Hin
  obtain ⟨c, hc⟩ : ∃ c, (InstL.mk op n ty r).fine = c := ⟨_, rfl⟩
  rw [hc] at Hin
  replace hok := fun b h => hok b c h hc
  clear hc hi
  unfold checkPost
  rcases kindL_cases op with hk | hk | hk | hk | hk | hk | hk | hk | hk | hk
  · have hb : (InstL.mk op n ty r).bare = ⟨op, 0, [], noRefL⟩ := by unfold InstL.bare; simp [hk]
    rw [hb] at hok
    have hE := fun w => eq_inst ⟨op, 0, [], noRefL⟩ ⟨op, n, ty, r⟩ w
    rw [hk] at Hop
    obtain ⟨b, eb⟩ : ∃ b, decide ((⟨op, 0, [], noRefL⟩ : InstL) = ⟨op, n, ty, r⟩) = b := ⟨_, rfl⟩
    rw [eb] at hE
    rw [hok b eb]
    clear hok eb hb hk
    unfold InstL.v InstL.cells at hE Hin ⊢
    simp only [noRefL, bs_nil] at hE
    go_enter Tryd.func14, Tryd.ntmps14
    go_wp2_with fail
    refine (Hop _).out.mono ?_
    rintro e w1 ⟨rfl, hU1⟩
    obtain ⟨hc1, hf1, hz1⟩ := hU1.cells
    have hz1' : w.heap.size + 1 < w1.heap.size := by simp at hz1; omega
    have hz2' : w.heap.size < w1.heap.size := by omega
    have hU2 := (hU0.alloc (.cells #[.int .i64 op, .int .i64 0, .string ⟨#[]⟩, .bool false, .string ⟨#[]⟩, .string ⟨#[]⟩, .string ⟨#[]⟩] 25)).trans hU1
    cases b
    · go_wp2
      go_ret
      exact ⟨rfl, hU2⟩
    · go_wp2_with fail
      refine (Hin _ (hm.upd hU2 (by simp))).out.mono ?_
      rintro e w2 ⟨rfl, hU3⟩
      cases c
      all_goals
        go_wp2
        go_ret
        exact ⟨rfl, hU2.trans hU3⟩
  · have hb : (InstL.mk op n ty r).bare = ⟨op, 0, [], noRefL⟩ := by unfold InstL.bare; simp [hk]
    rw [hb] at hok
    have hE := fun w => eq_inst ⟨op, 0, [], noRefL⟩ ⟨op, n, ty, r⟩ w
    rw [hk] at Hop
    obtain ⟨b, eb⟩ : ∃ b, decide ((⟨op, 0, [], noRefL⟩ : InstL) = ⟨op, n, ty, r⟩) = b := ⟨_, rfl⟩
    rw [eb] at hE
    rw [hok b eb]
    clear hok eb hb hk
    unfold InstL.v InstL.cells at hE Hin ⊢
    simp only [noRefL, bs_nil] at hE
    go_enter Tryd.func14, Tryd.ntmps14
    go_wp2_with fail
    refine (Hop _).out.mono ?_
    rintro e w1 ⟨rfl, hU1⟩
    obtain ⟨hc1, hf1, hz1⟩ := hU1.cells
    have hz1' : w.heap.size + 1 < w1.heap.size := by simp at hz1; omega
    have hz2' : w.heap.size < w1.heap.size := by omega
    have hU2 := (hU0.alloc (.cells #[.int .i64 op, .int .i64 0, .string ⟨#[]⟩, .bool false, .string ⟨#[]⟩, .string ⟨#[]⟩, .string ⟨#[]⟩] 25)).trans hU1
    cases b
    · go_wp2
      go_ret
      exact ⟨rfl, hU2⟩
    · go_wp2_with fail
      refine (Hin _ (hm.upd hU2 (by simp))).out.mono ?_
      rintro e w2 ⟨rfl, hU3⟩
      cases c
      all_goals
        go_wp2
        go_ret
        exact ⟨rfl, hU2.trans hU3⟩
  · have hb : (InstL.mk op n ty r).bare = ⟨op, n, [], noRefL⟩ := by unfold InstL.bare; simp [hk]
    rw [hb] at hok
    have hE := fun w => eq_inst ⟨op, n, [], noRefL⟩ ⟨op, n, ty, r⟩ w
    rw [hk] at Hop
    obtain ⟨b, eb⟩ : ∃ b, decide ((⟨op, n, [], noRefL⟩ : InstL) = ⟨op, n, ty, r⟩) = b := ⟨_, rfl⟩
    rw [eb] at hE
    rw [hok b eb]
    clear hok eb hb hk
    unfold InstL.v InstL.cells at hE Hin ⊢
    simp only [noRefL, bs_nil] at hE
    go_enter Tryd.func14, Tryd.ntmps14
    go_wp2_with fail
    refine (Hop _).out.mono ?_
    rintro e w1 ⟨rfl, hU1⟩
    obtain ⟨hc1, hf1, hz1⟩ := hU1.cells
    have hz1' : w.heap.size + 1 < w1.heap.size := by simp at hz1; omega
    have hz2' : w.heap.size < w1.heap.size := by omega
    have hU2 := (hU0.alloc (.cells #[.int .i64 op, .int .i64 0, .string ⟨#[]⟩, .bool false, .string ⟨#[]⟩, .string ⟨#[]⟩, .string ⟨#[]⟩] 25)).trans hU1
    cases b
    · go_wp2
      go_ret
      exact ⟨rfl, (hU2.setCell (.inr (by simp)) _)⟩
    · go_wp2_with fail
      refine (Hin _ (hm.upd (hU2.setCell (.inr (by simp)) _) (by simp))).out.mono ?_
      rintro e w2 ⟨rfl, hU3⟩
      cases c
      all_goals
        go_wp2
        go_ret
        exact ⟨rfl, (hU2.setCell (.inr (by simp)) _).trans hU3⟩
  · have hb : (InstL.mk op n ty r).bare = ⟨op, n, [], noRefL⟩ := by unfold InstL.bare; simp [hk]
    rw [hb] at hok
    have hE := fun w => eq_inst ⟨op, n, [], noRefL⟩ ⟨op, n, ty, r⟩ w
    rw [hk] at Hop
    obtain ⟨b, eb⟩ : ∃ b, decide ((⟨op, n, [], noRefL⟩ : InstL) = ⟨op, n, ty, r⟩) = b := ⟨_, rfl⟩
    rw [eb] at hE
    rw [hok b eb]
    clear hok eb hb hk
    unfold InstL.v InstL.cells at hE Hin ⊢
    simp only [noRefL, bs_nil] at hE
    go_enter Tryd.func14, Tryd.ntmps14
    go_wp2_with fail
    refine (Hop _).out.mono ?_
    rintro e w1 ⟨rfl, hU1⟩
    obtain ⟨hc1, hf1, hz1⟩ := hU1.cells
    have hz1' : w.heap.size + 1 < w1.heap.size := by simp at hz1; omega
    have hz2' : w.heap.size < w1.heap.size := by omega
    have hU2 := (hU0.alloc (.cells #[.int .i64 op, .int .i64 0, .string ⟨#[]⟩, .bool false, .string ⟨#[]⟩, .string ⟨#[]⟩, .string ⟨#[]⟩] 25)).trans hU1
    cases b
    · go_wp2
      go_ret
      exact ⟨rfl, (hU2.setCell (.inr (by simp)) _)⟩
    · go_wp2_with fail
      refine (Hin _ (hm.upd (hU2.setCell (.inr (by simp)) _) (by simp))).out.mono ?_
      rintro e w2 ⟨rfl, hU3⟩
      cases c
      all_goals
        go_wp2
        go_ret
        exact ⟨rfl, (hU2.setCell (.inr (by simp)) _).trans hU3⟩
  · have hb : (InstL.mk op n ty r).bare = ⟨op, n, [], noRefL⟩ := by unfold InstL.bare; simp [hk]
    rw [hb] at hok
    have hE := fun w => eq_inst ⟨op, n, [], noRefL⟩ ⟨op, n, ty, r⟩ w
    rw [hk] at Hop
    obtain ⟨b, eb⟩ : ∃ b, decide ((⟨op, n, [], noRefL⟩ : InstL) = ⟨op, n, ty, r⟩) = b := ⟨_, rfl⟩
    rw [eb] at hE
    rw [hok b eb]
    clear hok eb hb hk
    unfold InstL.v InstL.cells at hE Hin ⊢
    simp only [noRefL, bs_nil] at hE
    go_enter Tryd.func14, Tryd.ntmps14
    go_wp2_with fail
    refine (Hop _).out.mono ?_
    rintro e w1 ⟨rfl, hU1⟩
    obtain ⟨hc1, hf1, hz1⟩ := hU1.cells
    have hz1' : w.heap.size + 1 < w1.heap.size := by simp at hz1; omega
    have hz2' : w.heap.size < w1.heap.size := by omega
    have hU2 := (hU0.alloc (.cells #[.int .i64 op, .int .i64 0, .string ⟨#[]⟩, .bool false, .string ⟨#[]⟩, .string ⟨#[]⟩, .string ⟨#[]⟩] 25)).trans hU1
    cases b
    · go_wp2
      go_ret
      exact ⟨rfl, (hU2.setCell (.inr (by simp)) _)⟩
    · go_wp2_with fail
      refine (Hin _ (hm.upd (hU2.setCell (.inr (by simp)) _) (by simp))).out.mono ?_
      rintro e w2 ⟨rfl, hU3⟩
      cases c
      all_goals
        go_wp2
        go_ret
        exact ⟨rfl, (hU2.setCell (.inr (by simp)) _).trans hU3⟩
  · have hb : (InstL.mk op n ty r).bare = ⟨op, 0, ty, noRefL⟩ := by unfold InstL.bare; simp [hk]
    rw [hb] at hok
    have hE := fun w => eq_inst ⟨op, 0, ty, noRefL⟩ ⟨op, n, ty, r⟩ w
    rw [hk] at Hop
    obtain ⟨b, eb⟩ : ∃ b, decide ((⟨op, 0, ty, noRefL⟩ : InstL) = ⟨op, n, ty, r⟩) = b := ⟨_, rfl⟩
    rw [eb] at hE
    rw [hok b eb]
    clear hok eb hb hk
    unfold InstL.v InstL.cells at hE Hin ⊢
    simp only [noRefL, bs_nil] at hE
    go_enter Tryd.func14, Tryd.ntmps14
    go_wp2_with fail
    refine (Hop _).out.mono ?_
    rintro e w1 ⟨rfl, hU1⟩
    obtain ⟨hc1, hf1, hz1⟩ := hU1.cells
    have hz1' : w.heap.size + 1 < w1.heap.size := by simp at hz1; omega
    have hz2' : w.heap.size < w1.heap.size := by omega
    have hU2 := (hU0.alloc (.cells #[.int .i64 op, .int .i64 0, .string ⟨#[]⟩, .bool false, .string ⟨#[]⟩, .string ⟨#[]⟩, .string ⟨#[]⟩] 25)).trans hU1
    cases b
    · go_wp2
      go_ret
      exact ⟨rfl, (hU2.setCell (.inr (by simp)) _)⟩
    · go_wp2_with fail
      refine (Hin _ (hm.upd (hU2.setCell (.inr (by simp)) _) (by simp))).out.mono ?_
      rintro e w2 ⟨rfl, hU3⟩
      cases c
      all_goals
        go_wp2
        go_ret
        exact ⟨rfl, (hU2.setCell (.inr (by simp)) _).trans hU3⟩
  · have hb : (InstL.mk op n ty r).bare = ⟨op, 0, ty, noRefL⟩ := by unfold InstL.bare; simp [hk]
    rw [hb] at hok
    have hE := fun w => eq_inst ⟨op, 0, ty, noRefL⟩ ⟨op, n, ty, r⟩ w
    rw [hk] at Hop
    obtain ⟨b, eb⟩ : ∃ b, decide ((⟨op, 0, ty, noRefL⟩ : InstL) = ⟨op, n, ty, r⟩) = b := ⟨_, rfl⟩
    rw [eb] at hE
    rw [hok b eb]
    clear hok eb hb hk
    unfold InstL.v InstL.cells at hE Hin ⊢
    simp only [noRefL, bs_nil] at hE
    go_enter Tryd.func14, Tryd.ntmps14
    go_wp2_with fail
    refine (Hop _).out.mono ?_
    rintro e w1 ⟨rfl, hU1⟩
    obtain ⟨hc1, hf1, hz1⟩ := hU1.cells
    have hz1' : w.heap.size + 1 < w1.heap.size := by simp at hz1; omega
    have hz2' : w.heap.size < w1.heap.size := by omega
    have hU2 := (hU0.alloc (.cells #[.int .i64 op, .int .i64 0, .string ⟨#[]⟩, .bool false, .string ⟨#[]⟩, .string ⟨#[]⟩, .string ⟨#[]⟩] 25)).trans hU1
    cases b
    · go_wp2
      go_ret
      exact ⟨rfl, (hU2.setCell (.inr (by simp)) _)⟩
    · go_wp2_with fail
      refine (Hin _ (hm.upd (hU2.setCell (.inr (by simp)) _) (by simp))).out.mono ?_
      rintro e w2 ⟨rfl, hU3⟩
      cases c
      all_goals
        go_wp2
        go_ret
        exact ⟨rfl, (hU2.setCell (.inr (by simp)) _).trans hU3⟩
  · have hb : (InstL.mk op n ty r).bare = ⟨op, 0, ty, noRefL⟩ := by unfold InstL.bare; simp [hk]
    rw [hb] at hok
    have hE := fun w => eq_inst ⟨op, 0, ty, noRefL⟩ ⟨op, n, ty, r⟩ w
    rw [hk] at Hop
    obtain ⟨b, eb⟩ : ∃ b, decide ((⟨op, 0, ty, noRefL⟩ : InstL) = ⟨op, n, ty, r⟩) = b := ⟨_, rfl⟩
    rw [eb] at hE
    rw [hok b eb]
    clear hok eb hb hk
    unfold InstL.v InstL.cells at hE Hin ⊢
    simp only [noRefL, bs_nil] at hE
    go_enter Tryd.func14, Tryd.ntmps14
    go_wp2_with fail
    refine (Hop _).out.mono ?_
    rintro e w1 ⟨rfl, hU1⟩
    obtain ⟨hc1, hf1, hz1⟩ := hU1.cells
    have hz1' : w.heap.size + 1 < w1.heap.size := by simp at hz1; omega
    have hz2' : w.heap.size < w1.heap.size := by omega
    have hU2 := (hU0.alloc (.cells #[.int .i64 op, .int .i64 0, .string ⟨#[]⟩, .bool false, .string ⟨#[]⟩, .string ⟨#[]⟩, .string ⟨#[]⟩] 25)).trans hU1
    cases b
    · go_wp2
      go_ret
      exact ⟨rfl, (hU2.setCell (.inr (by simp)) _)⟩
    · go_wp2_with fail
      refine (Hin _ (hm.upd (hU2.setCell (.inr (by simp)) _) (by simp))).out.mono ?_
      rintro e w2 ⟨rfl, hU3⟩
      cases c
      all_goals
        go_wp2
        go_ret
        exact ⟨rfl, (hU2.setCell (.inr (by simp)) _).trans hU3⟩
  · have hb : (InstL.mk op n ty r).bare = ⟨op, n, ty, noRefL⟩ := by unfold InstL.bare; simp [hk]
    rw [hb] at hok
    have hE := fun w => eq_inst ⟨op, n, ty, noRefL⟩ ⟨op, n, ty, r⟩ w
    rw [hk] at Hop
    obtain ⟨b, eb⟩ : ∃ b, decide ((⟨op, n, ty, noRefL⟩ : InstL) = ⟨op, n, ty, r⟩) = b := ⟨_, rfl⟩
    rw [eb] at hE
    rw [hok b eb]
    clear hok eb hb hk
    unfold InstL.v InstL.cells at hE Hin ⊢
    simp only [noRefL, bs_nil] at hE
    go_enter Tryd.func14, Tryd.ntmps14
    go_wp2_with fail
    refine (Hop _).out.mono ?_
    rintro e w1 ⟨rfl, hU1⟩
    obtain ⟨hc1, hf1, hz1⟩ := hU1.cells
    have hz1' : w.heap.size + 1 < w1.heap.size := by simp at hz1; omega
    have hz2' : w.heap.size < w1.heap.size := by omega
    have hU2 := (hU0.alloc (.cells #[.int .i64 op, .int .i64 0, .string ⟨#[]⟩, .bool false, .string ⟨#[]⟩, .string ⟨#[]⟩, .string ⟨#[]⟩] 25)).trans hU1
    go_wp2
    go_region
    all_goals
      cases b
      · go_wp2
        go_ret
        exact ⟨rfl, ((hU2.setCell (.inr (by simp)) _).setCell (.inr (by simp)) _).drew⟩
      · go_wp2_with fail
        refine (Hin _ (hm.upd ((hU2.setCell (.inr (by simp)) _).setCell (.inr (by simp)) _).drew (by simp))).out.mono ?_
        rintro e w2 ⟨rfl, hU3⟩
        cases c
        all_goals
          go_wp2
          go_ret
          exact ⟨rfl, ((hU2.setCell (.inr (by simp)) _).setCell (.inr (by simp)) _).drew.trans hU3⟩
  · have hb : (InstL.mk op n ty r).bare = ⟨op, 0, [], r⟩ := by unfold InstL.bare; simp [hk]
    rw [hb] at hok
    have hE := fun w => eq_inst ⟨op, 0, [], r⟩ ⟨op, n, ty, r⟩ w
    rw [hk] at Hop
    obtain ⟨b, eb⟩ : ∃ b, decide ((⟨op, 0, [], r⟩ : InstL) = ⟨op, n, ty, r⟩) = b := ⟨_, rfl⟩
    rw [eb] at hE
    rw [hok b eb]
    clear hok eb hb hk
    unfold InstL.v InstL.cells at hE Hin ⊢
    simp only [noRefL, bs_nil] at hE
    go_enter Tryd.func14, Tryd.ntmps14
    go_wp2_with fail
    refine (Hop _).out.mono ?_
    rintro e w1 ⟨rfl, hU1⟩
    obtain ⟨hc1, hf1, hz1⟩ := hU1.cells
    have hz1' : w.heap.size + 1 < w1.heap.size := by simp at hz1; omega
    have hz2' : w.heap.size < w1.heap.size := by omega
    have hU2 := (hU0.alloc (.cells #[.int .i64 op, .int .i64 0, .string ⟨#[]⟩, .bool false, .string ⟨#[]⟩, .string ⟨#[]⟩, .string ⟨#[]⟩] 25)).trans hU1
    cases b
    · go_wp2
      go_ret
      exact ⟨rfl, ((((hU2.setCell (.inr (by simp)) _).setCell (.inr (by simp)) _).setCell (.inr (by simp)) _).setCell (.inr (by simp)) _)⟩
    · go_wp2_with fail
      refine (Hin _ (hm.upd ((((hU2.setCell (.inr (by simp)) _).setCell (.inr (by simp)) _).setCell (.inr (by simp)) _).setCell (.inr (by simp)) _) (by simp))).out.mono ?_
      rintro e w2 ⟨rfl, hU3⟩
      cases c
      all_goals
        go_wp2
        go_ret
        exact ⟨rfl, ((((hU2.setCell (.inr (by simp)) _).setCell (.inr (by simp)) _).setCell (.inr (by simp)) _).setCell (.inr (by simp)) _).trans hU3⟩
end Go.Proofs.YtjjdlgjofjfgmaaDoor
