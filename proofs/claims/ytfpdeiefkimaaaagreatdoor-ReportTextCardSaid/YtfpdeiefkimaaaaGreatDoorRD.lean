/-
  Same at a nil world; the classes that Load takes are sound; the laws' own awake. (Layer 25.)
-/
import Derived.Test.YtfpdeiefkimaaaaGreatDoorRC
import Derived.Test.YtfpdeiefkimaaaaGreatDoorRA
set_option linter.unusedSimpArgs false
set_option linter.unusedVariables false
namespace Go.Proofs.YtfpdeiefkimaaaaGreatDoor
open Go.RowKit

set_option maxRecDepth 100000 in
theorem sameNil_any (b : Nat) (w : World) : Calls Tryz.prog 13 #[.pointer (some ⟨b, 0, none⟩), .pointer none] w fun e w' => e = .returned (.bool false) ∧ w' = w := by
  go_enter Tryz.func13, Tryz.ntmps13
  go_wp2
  go_ret
  exact ⟨rfl, rfl⟩
section
variable (D : List RdS → RdS → Int)
theorem take_check {s : LdS} {ws : List RdS} (h : takeL D s = .inl ws) : ∃ r, ws = s.ws ++ [r] ∧ checkB (clsS r) = true := by
  unfold takeL at h
  cases ht : textO s.text with
  | inr x => rw [ht] at h; cases h
  | inl r =>
    rw [ht] at h
    simp only at h
    split at h
    · cases h
      exact ⟨r, rfl, (text_back ht).2⟩
    · cases h
theorem from_check (w0 : List RdS) : ∀ (ps : List (List UInt8)) (s s' : LdS) (done : List RdS), s.ws = w0 ++ done → (∀ r, r ∈ done → checkB (clsS r) = true) → loadFrom D s ps = .inl s' → ∃ more, s'.ws = w0 ++ more ∧ ∀ r, r ∈ more → checkB (clsS r) = true
  | [], s, s', done, hs, hd, h => by
    cases h
    exact ⟨done, hs, hd⟩
  | p :: t, s, s', done, hs, hd, h => by
    unfold loadFrom at h
    cases hp : pieceL D s p with
    | inr x => rw [hp] at h; cases h
    | inl s1 =>
      rw [hp] at h
      simp only at h
      unfold pieceL at hp
      split at hp
      · split at hp
        · rename_i ws htk
          cases hp
          obtain ⟨r, rfl, hr⟩ := take_check D htk
          refine from_check w0 t _ s' (done ++ [r]) (by simp [hs]) (fun x hx => ?_) h
          rcases List.mem_append.1 hx with hx | hx
          · exact hd x hx
          · rw [List.mem_singleton.1 hx]; exact hr
        · cases hp
      · cases hp
        exact from_check w0 t ⟨s.ws, s.bg, s.n + 1, s.text ++ p⟩ s' done hs hd h
theorem load_check {w0 : List RdS} {l : List UInt8} {ws : List RdS} (h : loadL D w0 l = .inl ws) : ∃ more, ws = w0 ++ more ∧ ∀ r, r ∈ more → checkB (clsS r) = true := by
  unfold loadL at h
  split at h
  · cases h
  · rename_i s hs
    obtain ⟨more, h1, h2⟩ := from_check D w0 (piecesL 10 l) ⟨w0, 1, 0, []⟩ s [] (by simp) (by simp) hs
    split at h
    · cases h
      exact ⟨more, h1, h2⟩
    · obtain ⟨r, rfl, hr⟩ := take_check D h
      refine ⟨more ++ [r], by rw [h1, List.append_assoc], fun x hx => ?_⟩
      rcases List.mem_append.1 hx with hx | hx
      · exact h2 x hx
      · rw [List.mem_singleton.1 hx]; exact hr
end
/-- What World needs of a world that Load took. -/
theorem load_fine {l : List UInt8} {ws : List RdS} (h : loadL defD baseW l = .inl ws) : 3 ≤ ws.length ∧ (∀ k (h : k < ws.length), 3 ≤ k → checkB (clsS ws[k]) = true) ∧ worldT (ws.drop 3) = l := by
  obtain ⟨more, rfl, hc⟩ := load_check defD h
  obtain ⟨more2, h1, h2⟩ := load_text defD h
  have : more = more2 := List.append_cancel_left h1
  subst this
  have h3 : baseW.length = 3 := rfl
  refine ⟨by rw [List.length_append]; omega, fun k hk hk3 => ?_, ?_⟩
  · rw [List.getElem_append_right (by omega)]
    exact hc _ (List.getElem_mem _)
  · rw [List.drop_left' h3]
    exact h2
theorem load_empty : loadL defD baseW [] = .inl baseW := rfl
set_option maxHeartbeats 4000000 in
set_option maxRecDepth 100000 in
theorem awake25_any (w : World) (henv : EnvAt w) : Calls Tryz.prog 5 #[] w fun e w' => e = .returned (.bool true) ∧ Upd w w' [] := by
  have Hld := hid (load_any [] w (by simp) henv)
  go_enter Tryz.func5, Tryz.ntmps5
  go_wp2_with fail
  refine Hld.out.mono ?_
  rintro e w1 hp
  unfold loadPost at hp
  rw [load_empty] at hp
  obtain ⟨⟨b, mb, es, S, rfl, hH, hr, hS⟩, hU⟩ := hp
  have HH := hid hH
  have HU := hid hU
  have HR := hid hr
  clear hH hU hr hS Hld
  go_wp2_with fail
  refine (new_any w1).mono ?_
  rintro e w2 ⟨b2, mb2, S2, rfl, hH2, hU2, hS2⟩
  have Hs := hid (sameWorld_any (HH.out.upd hU2) hH2)
  have HU2 := hid (HU.out.trans hU2)
  rw [HR.out, rs_base] at Hs
  clear hH2 hU2 hS2 HH HR HU
  go_wp2_with fail
  refine Hs.out.mono ?_
  rintro e w3 ⟨q, rfl, hq, hU3⟩
  have hqt : q = true := hq.2 trivial
  subst hqt
  have HU3 := hid (HU2.out.trans hU3)
  clear hq hU3 Hs HU2
  go_wp2
  go_ret
  exact ⟨rfl, HU3.out⟩
end Go.Proofs.YtfpdeiefkimaaaaGreatDoor
/-
  ReportText, walked. (Layer 25.)
-/
set_option linter.unusedSimpArgs false
set_option linter.unusedVariables false
namespace Go.Proofs.YtfpdeiefkimaaaaGreatDoor
open Go.RowKit

set_option maxHeartbeats 8000000 in
set_option maxRecDepth 100000 in
theorem reportText_walk (l m : List UInt8) (w : World) (hl : l.length ≤ 140737488351232) (hm : m.length ≤ 140737488351232) (henv : EnvAt w) : Calls Tryz.prog 4 #[.string (bs l), .string (bs m)] w fun e w' => e = .returned (.bool true) ∧ Upd w w' [] := by
  have HE := hid henv
  have Haw := hid (awake25_any w henv)
  clear henv
  go_enter Tryz.func4, Tryz.ntmps4
  go_wp2_with fail
  refine Haw.out.mono ?_
  rintro e w1 ⟨rfl, hU1⟩
  have HU1 := hid hU1
  clear hU1 Haw
  go_wp2_with fail
  refine (load_any l w1 (by omega) (HE.out.upd HU1.out)).mono ?_
  rintro e w2 hp
  unfold loadPost at hp
  cases hL : loadL defD baseW l with
  | inr x =>
    rw [hL] at hp
    obtain ⟨rfl, hU2⟩ := hp
    obtain ⟨xn, xe⟩ := x
    obtain ⟨hx1, hx2⟩ := load_line defD hL
    have HU2 := hid (HU1.out.trans hU2)
    have hne : (xe != 0) = true := bne_iff_ne.2 hx2
    have hge : decide ((1 : Int) ≤ xn) = true := decide_eq_true (by omega)
    clear hU2 HU1 hx2 hL
    go_wp2_with fail
    refine (load_any m w2 (by omega) (HE.out.upd HU2.out)).mono ?_
    rintro e w3 hp3
    unfold loadPost at hp3
    obtain ⟨hp3, hU3⟩ := hp3
    have HU3 := hid (HU2.out.trans hU3)
    clear hU3 HU2
    cases hM : loadL defD baseW m with
    | inr y =>
      rw [hM] at hp3
      subst hp3
      clear hM
      go_wp2
      go_ret
      exact ⟨rfl, HU3.out⟩
    | inl ws =>
      rw [hM] at hp3
      obtain ⟨b, mb, es, S, rfl, -, -, -⟩ := hp3
      clear hM
      go_wp2
      go_ret
      exact ⟨rfl, HU3.out⟩
  | inl ws =>
    rw [hL] at hp
    obtain ⟨⟨b, mb, es, S, rfl, hH, hr, -⟩, hU2⟩ := hp
    obtain ⟨hf1, hf2, hf3⟩ := load_fine hL
    have HL := hid hL
    have HH := hid hH
    have HR := hid hr
    have HU2 := hid (HU1.out.trans hU2)
    clear hU2 HU1 hL hH hr
    go_wp2_with fail
    refine (load_any m w2 (by omega) (HE.out.upd HU2.out)).mono ?_
    rintro e w3 hp3
    unfold loadPost at hp3
    obtain ⟨hp3, hU3⟩ := hp3
    have HH3 := hid (HH.out.upd hU3)
    have HU3 := hid (HU2.out.trans hU3)
    have hesl : es.length = ws.length := by rw [← HR.out]; simp [rsOf]
    have Hwd := hid (world_any HH3.out (by omega) (by rw [HR.out]; exact hf2) (by rw [HR.out, hf3]; omega) (HE.out.upd HU3.out).rdy)
    rw [HR.out, hf3] at Hwd
    have heq : ((bs l).toList == (bs l).toList) = true := by rw [bs_beq]; exact decide_eq_true rfl
    clear hU3 HU2 HH hf1 hf2 hf3 hesl
    cases hM : loadL defD baseW m with
    | inr y =>
      rw [hM] at hp3
      subst hp3
      obtain ⟨yn, ye⟩ := y
      obtain ⟨hy1, hy2⟩ := load_line defD hM
      have hne : (ye != 0) = true := bne_iff_ne.2 hy2
      have hge : decide ((1 : Int) ≤ yn) = true := decide_eq_true (by omega)
      clear hM hy2
      go_wp2_with fail
      refine Hwd.out.mono ?_
      rintro e w4 ⟨rfl, hU4⟩
      have HU4 := hid (HU3.out.trans hU4)
      clear hU4 Hwd
      go_wp2_with fail
      refine (sameNil_any b w4).mono ?_
      rintro e w5 ⟨rfl, rfl⟩
      go_wp2
      go_ret
      exact ⟨rfl, HU4.out⟩
    | inl ws2 =>
      rw [hM] at hp3
      obtain ⟨b2, mb2, es2, S2, rfl, hH2, hr2, -⟩ := hp3
      have HH2 := hid hH2
      have hlm := hid (load_same defD HL.out hM)
      have HR2 := hid hr2
      clear hM hH2 hr2
      go_wp2_with fail
      refine Hwd.out.mono ?_
      rintro e w4 ⟨rfl, hU4⟩
      have Hs := hid (sameWorld_any (HH3.out.upd hU4) (HH2.out.upd hU4))
      rw [HR.out, HR2.out] at Hs
      have HU4 := hid (HU3.out.trans hU4)
      clear hU4 Hwd HH3 HH2 HR HR2
      go_wp2_with fail
      refine Hs.out.mono ?_
      rintro e w5 ⟨q, rfl, hq, hU5⟩
      have HU5 := hid (HU4.out.trans hU5)
      have hqd : q = decide (l = m) := by
        rw [Bool.eq_iff_iff, decide_eq_true_iff]
        exact hq.trans hlm.out
      have hlb : ((bs l).toList == (bs m).toList) = decide (l = m) := bs_beq l m
      subst hqd
      generalize decide (l = m) = q at *
      clear hq hU5 Hs hlm
      cases q
      · go_wp2
        go_ret
        exact ⟨rfl, HU5.out⟩
      · go_wp2
        go_ret
        exact ⟨rfl, HU5.out⟩
end Go.Proofs.YtfpdeiefkimaaaaGreatDoor
