/-
  The law CodeTogether, walked.
-/
import Derived.Test.YtjjdlgjofjfgmaaDoorAllsE
set_option linter.unusedSimpArgs false
set_option linter.unusedVariables false
namespace Go.Proofs.YtjjdlgjofjfgmaaDoor
open Go.RowKit Go.Sort

def retI : InstL := ⟨38, 0, [], noRefL⟩
def one : List InstL := [retI]
theorem ret_ok : retI.ok = true := by decide
theorem ret_kind : kindL 38 = 0 := by decide

theorem allOk_parts {l : List InstL} {locals : Int} (h : allOk l locals = true) : (1 ≤ l.length ∧ l.length ≤ 200) ∧ ∀ i, i ∈ l → badI i locals l.length = false := by
  unfold allOk at h
  rw [Bool.and_eq_true, List.all_eq_true] at h
  refine ⟨of_decide_eq_true h.1, fun i hi => ?_⟩
  have := h.2 i hi
  simpa using this
theorem allOk_of {l : List InstL} {locals : Int} (h : 1 ≤ l.length ∧ l.length ≤ 200) (ha : ∀ i, i ∈ l → badI i locals l.length = false) : allOk l locals = true := by
  unfold allOk
  rw [decide_eq_true h, Bool.true_and, List.all_eq_true]
  intro x hx
  simp [ha x hx]
theorem badI_false {i : InstL} {locals : Int} {n : Nat} (h : badI i locals n = false) : i.ok = true ∧ (kindL i.op = 2 → i.n < locals) ∧ (kindL i.op = 3 → i.n < (n : Int)) := by
  unfold badI at h
  simp only [Bool.or_eq_false_iff, Bool.not_eq_false', Bool.and_eq_false_iff, decide_eq_false_iff_not] at h
  obtain ⟨⟨h1, h2⟩, h3⟩ := h
  exact ⟨h1, fun e => by rcases h2 with h2 | h2 <;> first | exact absurd e h2 | omega, fun e => by rcases h3 with h3 | h3 <;> first | exact absurd e h3 | omega⟩
theorem badI_of {i : InstL} {locals : Int} {n : Nat} (h1 : i.ok = true) (h2 : kindL i.op = 2 → i.n < locals) (h3 : kindL i.op = 3 → i.n < (n : Int)) : badI i locals n = false := by
  unfold badI
  simp only [Bool.or_eq_false_iff, Bool.not_eq_false', Bool.and_eq_false_iff, decide_eq_false_iff_not]
  refine ⟨⟨h1, ?_⟩, ?_⟩
  · by_cases e : kindL i.op = 2
    · right; have := h2 e; omega
    · exact .inl e
  · by_cases e : kindL i.op = 3
    · right; have := h3 e; omega
    · exact .inl e
theorem ok_two {i : InstL} (h : i.ok = true) (e : kindL i.op = 2) : i.n ≤ 39 := by
  unfold InstL.ok at h
  rw [Bool.and_eq_true] at h
  have := h.2
  unfold InstL.fine at this
  rw [if_neg (by omega), if_neg (by omega), if_pos e] at this
  unfold withinB at this
  have := of_decide_eq_true this
  omega
theorem allOk_40 {l : List InstL} {locals : Int} (h : allOk l locals = true) : allOk l 40 = true := by
  obtain ⟨h1, h2⟩ := allOk_parts h
  refine allOk_of h1 fun i hi => ?_
  obtain ⟨a, b, c⟩ := badI_false (h2 i hi)
  exact badI_of a (fun e => by have := ok_two a e; omega) c
theorem allOk_more {l : List InstL} {locals : Int} (h : allOk l locals = true) (hs : l.length + 1 ≤ 200) : allOk (l ++ one) locals = true := by
  obtain ⟨h1, h2⟩ := allOk_parts h
  have hl : (l ++ one).length = l.length + 1 := by simp [one]
  refine allOk_of (by omega) fun i hi => ?_
  rw [hl]
  rcases List.mem_append.1 hi with hi | hi
  · obtain ⟨a, b, c⟩ := badI_false (h2 i hi)
    exact badI_of a b (fun e => by have := c e; omega)
  · simp only [one, List.mem_singleton] at hi
    subst hi
    exact badI_of ret_ok (fun e => by have : kindL retI.op = 0 := ret_kind; omega) (fun e => by have : kindL retI.op = 0 := ret_kind; omega)
theorem allOk_over {l : List InstL} {locals : Int} (hs : 200 < l.length + 1) : allOk (l ++ one) locals = false := allOk_size (by simp [one]; omega)

theorem one_at (w : World) : InstsAt (w.alloc (.cells #[.int .i64 38, .int .i64 0, .string ⟨#[]⟩, .bool false, .string ⟨#[]⟩, .string ⟨#[]⟩, .string ⟨#[]⟩] 25)) (some ⟨w.heap.size, 0, none⟩) one := by
  intro _
  refine ⟨w.heap.size, 0, rfl, by simp, fun i hi j hj => ?_⟩
  have hb := fun t cs => (Blk.new w t cs).cell (0 + i * 7 + j)
  rw [hb]
  obtain rfl : i = 0 := by simp [one] at hi; omega
  obtain rfl | rfl | rfl | rfl | rfl | rfl | rfl : j = 0 ∨ j = 1 ∨ j = 2 ∨ j = 3 ∨ j = 4 ∨ j = 5 ∨ j = 6 := by omega
  all_goals rfl

def codeTogetherRel (l : List InstL) (w : World) (t : Value) (wr : World) : Prop :=
  ∃ k : Nat, t = .int .i64 k ∧ k ≤ l.length ∧ Upd w wr []

set_option maxHeartbeats 8000000 in
set_option maxRecDepth 1000000 in
theorem codeTogether_walk (A : Option Addr) (cap : Nat) (l : List InstL) (locals : Int) (w : World) (hA : InstsAt w A l) (hl : l.length * 88 ≤ 140737488351232) (hfit : ∀ i, i ∈ l → i.fit) (hm : Rdy w) :
    Calls Tryd.prog 5 #[.slice A l.length cap, .int .i64 locals] w fun e w' => e = .returned (.bool true) ∧ Upd w w' [] := by
  have Haw := fun w hm => hid (awake_any w hm)
  go_enter Tryd.func5, Tryd.ntmps5
  go_wp2_with fail
  refine (Haw _ hm).out.mono ?_
  rintro e w1 ⟨rfl, hU1⟩
  have hA1 := hA.upd hU1
  have hm1 := hm.upd hU1
  have HC := hid (checkAll_any A cap l locals w1 hA1 (by omega) hfit hm1.max)
  go_wp2_with fail
  refine HC.out.mono ?_
  rintro e w2 ⟨rfl, hU2⟩
  have hA2 := hA1.upd hU2
  have hm2 := hm1.upd hU2
  have hV2 := hU1.trans hU2
  clear HC hA hm hA1 hm1 hU1 hU2
  by_cases hok : allOk l locals = true
  · obtain ⟨hsz, hall⟩ := allOk_parts hok
    rw [hok]
    have e0 : errIf true = 0 := rfl
    rw [e0]
    have hne : l ≠ [] := by rintro rfl; simp at hsz
    obtain ⟨bk, off, rfl, hbk, hc⟩ := hA2 hne
    have Hc := hid hc
    have HA2 := hid hA2
    have Hok := hid (fun (k : Nat) (h : k < l.length) => (badI_false (hall _ (List.getElem_mem h))).1)
    clear hc hA2 hall
    go_wp2
    go_loopw [6] (fun t wr => codeTogetherRel l w2 t wr) (fun t _ => l.length - (intOf t).toNat)
    case atStart => exact ⟨0, rfl, Nat.zero_le _, Upd.refl _ _⟩
    case round =>
      obtain ⟨k, rfl, hk, hU⟩ := hrel
      by_cases hlt : k < l.length
      · obtain ⟨op, n, tx, r, e⟩ : ∃ op n tx r, l[k] = InstL.mk op n tx r := ⟨_, _, _, _, rfl⟩
        have hf := hfit _ (List.getElem_mem hlt)
        have hk2 := Hok.out k hlt
        rw [e] at hf hk2
        have hbr : bk < wr.heap.size := Nat.lt_of_lt_of_le hbk hU.size
        obtain ⟨x0, x1, x2, x3, x4, x5, x6⟩ := InstsAt.seven (w := wr) (fun i hi j hj => by rw [hU.cells.1 _ _ hbk]; exact Hc.out i hi j hj) hlt e
        have Hck := fun w hm => hid (check_any ⟨op, n, tx, r⟩ w hf hm)
        unfold checkPost InstL.v InstL.cells at Hck
        rw [hk2] at Hck
        simp only [errIf, if_true] at Hck
        clear e hf hk2
        go_wp2_with fail
        refine (Hck _ (hm2.max.upd hU (by simp))).out.mono ?_
        rintro e w3 ⟨rfl, hU3⟩
        have hV3 := hU.trans hU3
        clear x0 x1 x2 x3 x4 x5 x6
        go_wp2
        go_roundw
        case rel => exact ⟨k + 1, by go_num, by omega, hV3⟩
        case measure => simp [intOf]; omega
      · obtain rfl : k = l.length := by omega
        clear hlt hk
        have hA3 := HA2.out.upd hU
        have hm3 := hm2.upd hU
        have hV3 := hV2.trans hU
        have hown0 : Owns (wr.alloc (.cells #[] 25)) wr.heap.size (.slice (some ⟨wr.heap.size, 0, none⟩) 0 0) [] := World.ownsRow_made wr #[] 0 (Nat.le_refl _) (by simp [maxLen]) rfl
        have hA4 : InstsAt (wr.alloc (.cells #[] 25)) (some ⟨bk, off, none⟩) l := hA3.upd ((Upd.refl _ _).alloc _)
        clear HA2 Hc Hok
        by_cases hbig : 200 < l.length + 1
        · have hbz : allOk (l ++ one) locals = false := allOk_over hbig
          have hbi : ((200 : Int) < (l.length : Int) + 1) := by omega
          go_wp2_with (at_builtin; (first
            | (refine wpList_app _ rfl (.tmp 29) (.tmp 30) rfl wr.heap.size [] l (.slice (some ⟨wr.heap.size, 0, none⟩) 0 0) (some ⟨bk, off, none⟩) l.length cap rfl hown0 rfl rfl hA4 (by simp; omega) (by simp) ?_
               intro v1 w4 hown1 hg1 hat1
               have hb1 : Below wr.heap.size wr w4 := ((Below.refl _ _).alloc (Nat.le_refl _) _).grown hg1 (by simp) (by simp [Value.ownBlock]))
            | (refine wpList_app _ rfl (.tmp 31) (.tmp 33) rfl wr.heap.size l one v1 (some ⟨w4.heap.size, 0, none⟩) 1 1 rfl (hown1.alloc _) rfl rfl (one_at _) (by simp [one]; omega) (by have := hb1.size; simp; omega) ?_
               intro v2 w5 hown2 hg2 hat2
               obtain ⟨g, cp, rfl, hgb, hgl, hcp, hI⟩ := hown2.form (l.length + 1) (by simp [one]) (by omega)
               have hb3 : Below wr.heap.size wr w5 := (hb1.alloc hb1.size _).grown hg2 (by have := hb1.size; simp; omega) (fun k hk => by rcases hat1 with e | e <;> rw [e] at hk <;> simp [Value.ownBlock] at hk <;> omega))))
          have hA5 : InstsAt w5 (some ⟨bk, off, none⟩) l := hA3.upd (Upd.of_below hb3 [])
          have hm5 := hm3.upd (Upd.of_below hb3 [])
          have hV5 := hV3.trans (Upd.of_below hb3 [])
          have hlo : (l ++ one).length = l.length + 1 := by simp [one]
          have hfit2 : ∀ i, i ∈ l ++ one → i.fit := by
            intro i hi
            rcases List.mem_append.1 hi with hi | hi
            · exact hfit i hi
            · simp only [one, List.mem_singleton] at hi
              subst hi
              exact ⟨by simp [retI], by simp [retI, RefL.fit, noRefL]⟩
          have HK := hid (checkAll_any (some ⟨g, 0, none⟩) cp (l ++ one) locals w5 hI (by omega) hfit2 hm5.max)
          rw [hbz, hlo] at HK
          clear hfit2 hI hbz
          refine HK.out.mono ?_
          rintro e w6 ⟨rfl, hU6⟩
          simp only [errIf]
          go_wp2
          go_ret
          exact ⟨rfl, hV5.trans hU6⟩
        · have hbz : allOk (l ++ one) locals = true := allOk_more hok (by omega)
          have hbf : allOk l 40 = true := allOk_40 hok
          have hbi : ¬ ((200 : Int) < (l.length : Int) + 1) := by omega
          go_wp2_with (at_builtin; (first
            | (refine wpList_app _ rfl (.tmp 29) (.tmp 30) rfl wr.heap.size [] l (.slice (some ⟨wr.heap.size, 0, none⟩) 0 0) (some ⟨bk, off, none⟩) l.length cap rfl hown0 rfl rfl hA4 (by simp; omega) (by simp) ?_
               intro v1 w4 hown1 hg1 hat1
               have hb1 : Below wr.heap.size wr w4 := ((Below.refl _ _).alloc (Nat.le_refl _) _).grown hg1 (by simp) (by simp [Value.ownBlock]))
            | (refine wpList_app _ rfl (.tmp 31) (.tmp 33) rfl wr.heap.size l one v1 (some ⟨w4.heap.size, 0, none⟩) 1 1 rfl (hown1.alloc _) rfl rfl (one_at _) (by simp [one]; omega) (by have := hb1.size; simp; omega) ?_
               intro v2 w5 hown2 hg2 hat2
               obtain ⟨g, cp, rfl, hgb, hgl, hcp, hI⟩ := hown2.form (l.length + 1) (by simp [one]) (by omega)
               have hb3 : Below wr.heap.size wr w5 := (hb1.alloc hb1.size _).grown hg2 (by have := hb1.size; simp; omega) (fun k hk => by rcases hat1 with e | e <;> rw [e] at hk <;> simp [Value.ownBlock] at hk <;> omega))))
          have hA5 : InstsAt w5 (some ⟨bk, off, none⟩) l := hA3.upd (Upd.of_below hb3 [])
          have hm5 := hm3.upd (Upd.of_below hb3 [])
          have hV5 := hV3.trans (Upd.of_below hb3 [])
          have hlo : (l ++ one).length = l.length + 1 := by simp [one]
          have hfit2 : ∀ i, i ∈ l ++ one → i.fit := by
            intro i hi
            rcases List.mem_append.1 hi with hi | hi
            · exact hfit i hi
            · simp only [one, List.mem_singleton] at hi
              subst hi
              exact ⟨by simp [retI], by simp [retI, RefL.fit, noRefL]⟩
          have HJ := hid (checkAll_any (some ⟨bk, off, none⟩) cap l 40 w5 hA5 (by omega) hfit hm5.max)
          rw [hbf] at HJ
          refine HJ.out.mono ?_
          rintro e w6 ⟨rfl, hU6⟩
          have HK := hid (checkAll_any (some ⟨g, 0, none⟩) cp (l ++ one) locals w6 (hI.upd hU6) (by omega) hfit2 (hm5.max.upd hU6 (by simp)))
          rw [hbz, hlo] at HK
          clear hfit2 hI hbz
          simp only [errIf]
          go_wp2_with fail
          refine HK.out.mono ?_
          rintro e w7 ⟨rfl, hU7⟩
          simp only [errIf]
          go_wp2
          go_ret
          exact ⟨rfl, hV5.trans (hU6.trans hU7)⟩
  · have hf : allOk l locals = false := by simpa using hok
    rw [hf]
    have e1 : errIf false = 1 := rfl
    rw [e1]
    go_wp2
    go_ret
    exact ⟨rfl, hV2⟩
end Go.Proofs.YtjjdlgjofjfgmaaDoor
