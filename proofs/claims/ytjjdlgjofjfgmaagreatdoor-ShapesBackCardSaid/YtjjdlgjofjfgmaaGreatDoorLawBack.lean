/-
  The law ShapesBack, walked. (Printed by gen_lawBack.py.)
-/
import Derived.Test.YtjjdlgjofjfgmaaGreatDoorKR
import Derived.Test.YtjjdlgjofjfgmaaGreatDoorKQ
set_option linter.unusedSimpArgs false
set_option linter.unusedVariables false
namespace Go.Proofs.YtjjdlgjofjfgmaaGreatDoor
open Go.RowKit Go.Sort

def ReadsAs (pt : List UInt8) (r : RdS) : Prop := pt.length ≤ 40000 → textO pt = .inl r
def countRel (l : List UInt8) (w : World) (tn ti : Value) (wr : World) : Prop :=
  ∃ k : Nat, ti = .int .i64 k ∧ k ≤ l.length ∧ tn = .int .i64 (((l.take k).count 10 + 1 : Nat) : Int) ∧ wr = w
theorem count_take {l : List UInt8} {k : Nat} (h : k < l.length) : (l.take (k + 1)).count 10 = (l.take k).count 10 + if l[k] = 10 then 1 else 0 := by
  rw [List.take_succ_eq_append_getElem h, List.count_append, List.count_singleton]
  simp only [beq_iff_eq]
theorem print_clsOf (r : RdS) (vi vm : Value) (cs : List Value) (h : r.ms.length = cs.length) : printL (clsOf r vi vm cs) = printL (clsS r) := by
  rw [← print_of (clsOf r vi vm cs), rd_clsOf r vi vm cs h]
  rfl

set_option maxHeartbeats 8000000 in
set_option maxRecDepth 100000 in
theorem shapesBack_walk (c : ClassL) (l : List UInt8) (w : World) (hc : c.fit w) (hl : l.length ≤ 1000000000000000) (hm : Rdy w) (he : ErrsAt w) (hg : HandleAt w) : Calls Tryz.prog 6 #[c.v, .string (bs l)] w fun e w' => e = .returned (.bool true) ∧ Upd w w' [] := by
  obtain ⟨ck, hck⟩ : ∃ ck, checkB c = ck := ⟨_, rfl⟩
  obtain ⟨pt, hpt⟩ : ∃ pt, printL c = pt := ⟨_, rfl⟩
  obtain ⟨r0, hr0⟩ : ∃ r0, rdOf c = r0 := ⟨_, rfl⟩
  have Haw := fun W (u : Upd w W []) => hid (awake5_any W (hm.upd u))
  have Hpr := fun W (u : Upd w W []) => hid (print5_any c W (hc.upd u) (hm.upd u))
  have Hck := fun W (u : Upd w W []) => hid (check5_any c W (hc.upd u) (hm.upd u).max)
  rw [hck, hpt] at Hpr
  rw [hck] at Hck
  have Hrd : Hid (ck = true → pt.length ≤ 40000 → textO pt = .inl r0) := hid (fun h1 h2 => by
    rw [← hpt, ← hr0]
    exact class_read hc (by rw [hck]; exact h1) (by rw [hpt]; exact h2))
  have Hpi := fun (t : List UInt8) (ht : t.length ≤ 1000000000000000) W (u : Upd w W []) => hid (parseCls_any t W (by omega) (hm.upd u) (he.upd u) (hg.upd u))
  have Hsm := fun (vi vm : Value) (cs : List Value) (hlen : r0.ms.length = cs.length) W (u : Upd w W []) (hd : (clsOf r0 vi vm cs).fit W) => hid (sameCls_any c (clsOf r0 vi vm cs) W (hc.upd u) hd (by rw [rd_clsOf _ _ _ _ hlen, ← hr0]; rfl))
  have HM := hid hm
  have hs := bs_size l
  have hps := bs_size pt
  have HT := hid (fun b => hid (text_back (l := l) (r := b)))
  clear hck hpt hr0 hm he hg hc
  obtain ⟨nm, sup, AI, cI, ifs, fl, ld, AM, cM, ms⟩ := c
  have hcv : (ClassL.mk nm sup AI cI ifs fl ld AM cM ms).v = .agg #[.string (bs nm), .string (bs sup), .slice AI ifs.length cI, .int .i64 fl, .int .i64 ld, .slice AM ms.length cM] := rfl
  simp only [hcv] at Hpr Hck Hsm ⊢
  clear hcv
  cases ck with
  | false =>
    simp only [errIf, Bool.false_eq_true, if_true, if_false] at Hpr Hck
    clear Hrd Hsm
    have HB := hid (Blk.new w 25 #[.string (bs nm), .string (bs sup), .slice AI ifs.length cI, .int .i64 fl, .int .i64 ld, .slice AM ms.length cM])
    have HU := hid (show Upd w (w.alloc (.cells #[.string (bs nm), .string (bs sup), .slice AI ifs.length cI, .int .i64 fl, .int .i64 ld, .slice AM ms.length cM] 25)) [] from (Upd.refl _ _).alloc _)
    go_enter Tryz.func6, Tryz.ntmps6
    go_wp2_with fail
    refine (Haw _ HU.out).out.mono ?_
    rintro e w1 ⟨rfl, hU⟩
    have HB1 := hid (hU.blk HB.out (by simp))
    have HU1 := hid (HU.out.trans hU)
    clear hU HB HU Haw
    have x0 := (HB1.out.cell 0).trans (show _ = some (.string (bs nm)) from rfl)
    have x1 := (HB1.out.cell 1).trans (show _ = some (.string (bs sup)) from rfl)
    have x2 := (HB1.out.cell 2).trans (show _ = some (.slice AI ifs.length cI) from rfl)
    have x3 := (HB1.out.cell 3).trans (show _ = some (.int .i64 fl) from rfl)
    have x4 := (HB1.out.cell 4).trans (show _ = some (.int .i64 ld) from rfl)
    have x5 := (HB1.out.cell 5).trans (show _ = some (.slice AM ms.length cM) from rfl)
    have hl1 := HB1.out.lt
    go_wp2_with fail
    refine (Hpr _ HU1.out).out.mono ?_
    rintro e w2 ⟨rfl, hU⟩
    have HB2 := hid (hU.blk HB1.out (by simp))
    have HU2 := hid (HU1.out.trans hU)
    clear hU HB1 HU1 Hpr x0 x1 x2 x3 x4 x5 hl1
    have x0 := (HB2.out.cell 0).trans (show _ = some (.string (bs nm)) from rfl)
    have x1 := (HB2.out.cell 1).trans (show _ = some (.string (bs sup)) from rfl)
    have x2 := (HB2.out.cell 2).trans (show _ = some (.slice AI ifs.length cI) from rfl)
    have x3 := (HB2.out.cell 3).trans (show _ = some (.int .i64 fl) from rfl)
    have x4 := (HB2.out.cell 4).trans (show _ = some (.int .i64 ld) from rfl)
    have x5 := (HB2.out.cell 5).trans (show _ = some (.slice AM ms.length cM) from rfl)
    have hl2 := HB2.out.lt
    go_wp2_with fail
    refine (Hck _ HU2.out).out.mono ?_
    rintro e w3 ⟨rfl, hU⟩
    have HB3 := hid (hU.blk HB2.out (by simp))
    have HU3 := hid (HU2.out.trans hU)
    clear hU HB2 HU2 Hck x0 x1 x2 x3 x4 x5 hl2
    go_wp2_with fail
    refine (Hpi l hl _ HU3.out).out.mono ?_
    intro e w6 hp
    unfold textPost at hp
    cases hO : textO l with
    | inl r =>
      rw [hO] at hp
      simp only at hp
      obtain ⟨⟨vi, vm, cs, rfl, hL, hfi, kw, hk, hwf⟩, hU⟩ := hp
      obtain ⟨ht1, ht2⟩ := (HT.out r).out hO
      have HFt := hid (hL.fit hfi hwf (by omega))
      have hval := hL.val
      have hcd : checkB (clsOf r vi vm cs) = true := (check_same r vi vm cs hL.len).trans ht2
      have hpd : printL (clsOf r vi vm cs) = l := (print_clsOf r vi vm cs hL.len).trans ht1
      have Hpr2 := fun W (hf : (clsOf r vi vm cs).fit W) (hm : Rdy W) => hid (print5_any (clsOf r vi vm cs) W hf hm)
      have Hck2 := fun W (hf : (clsOf r vi vm cs).fit W) (hm : Rdy W) => hid (check5_any (clsOf r vi vm cs) W hf hm.max)
      rw [hcd, hpd, hval] at Hpr2
      rw [hcd, hval] at Hck2
      simp only [if_true, errIf] at Hpr2 Hck2
      obtain ⟨A1, c1, rfl, -, -⟩ := own_slice hL.oi
      obtain ⟨A2, c2, rfl, -, -⟩ := own_slice hL.om
      have HFt := hid (HFt.out.upd ((Upd.refl w6 []).alloc (.cells #[.string (bs r.nm), .string (bs r.sup), .slice A1 r.ifs.length c1, .int .i64 r.fl, .int .i64 r.ld, .slice A2 r.ms.length c2] 25)))
      have HD6 := hid (Blk.new w6 25 #[.string (bs r.nm), .string (bs r.sup), .slice A1 r.ifs.length c1, .int .i64 r.fl, .int .i64 r.ld, .slice A2 r.ms.length c2])
      have HU6 := hid ((HU3.out.trans hU).alloc (.cells #[.string (bs r.nm), .string (bs r.sup), .slice A1 r.ifs.length c1, .int .i64 r.fl, .int .i64 r.ld, .slice A2 r.ms.length c2] 25))
      have hzz : w6.heap.size < (w6.alloc (.cells #[.string (bs r.nm), .string (bs r.sup), .slice A1 r.ifs.length c1, .int .i64 r.fl, .int .i64 r.ld, .slice A2 r.ms.length c2] 25)).heap.size := by simp
      clear hU hL hfi hwf hk ht1 ht2 hval hcd hpd hO Hpi
      have y0 := (HD6.out.cell 0).trans (show _ = some (.string (bs r.nm)) from rfl)
      have y1 := (HD6.out.cell 1).trans (show _ = some (.string (bs r.sup)) from rfl)
      have y2 := (HD6.out.cell 2).trans (show _ = some (.slice A1 r.ifs.length c1) from rfl)
      have y3 := (HD6.out.cell 3).trans (show _ = some (.int .i64 r.fl) from rfl)
      have y4 := (HD6.out.cell 4).trans (show _ = some (.int .i64 r.ld) from rfl)
      have y5 := (HD6.out.cell 5).trans (show _ = some (.slice A2 r.ms.length c2) from rfl)
      have hls : ((bs l).toList == (bs l).toList) = true := by simp
      go_wp2_with fail
      refine (Hpr2 _ HFt.out (HM.out.upd HU6.out)).out.mono ?_
      rintro e w7 ⟨rfl, hU⟩
      have HFt7 := hid (HFt.out.upd hU)
      have HD7 := hid (hU.blk HD6.out (by simp))
      have HU7 := hid (HU6.out.trans hU)
      clear hU HFt HD6 HU6 Hpr2 y0 y1 y2 y3 y4 y5 hzz
      have z0 := (HD7.out.cell 0).trans (show _ = some (.string (bs r.nm)) from rfl)
      have z1 := (HD7.out.cell 1).trans (show _ = some (.string (bs r.sup)) from rfl)
      have z2 := (HD7.out.cell 2).trans (show _ = some (.slice A1 r.ifs.length c1) from rfl)
      have z3 := (HD7.out.cell 3).trans (show _ = some (.int .i64 r.fl) from rfl)
      have z4 := (HD7.out.cell 4).trans (show _ = some (.int .i64 r.ld) from rfl)
      have z5 := (HD7.out.cell 5).trans (show _ = some (.slice A2 r.ms.length c2) from rfl)
      have hlz := HD7.out.lt
      go_wp2_with fail
      refine (Hck2 _ HFt7.out (HM.out.upd HU7.out)).out.mono ?_
      rintro e w8 ⟨rfl, hU⟩
      have HU8 := hid (HU7.out.trans hU)
      clear hU
      go_wp2
      go_ret
      exact ⟨rfl, HU8.out⟩
    | inr x =>
      rw [hO] at hp
      simp only at hp
      obtain ⟨n, e0⟩ := x
      simp only [zeroCls] at hp
      obtain ⟨rfl, hU⟩ := hp
      have htf := text_fault hO
      have hne : ¬ e0 = 0 := by rcases htf with ⟨h, -⟩ | ⟨-, h | h⟩ <;> omega
      have hneb : (e0 == 0) = false := beq_eq_false_iff_ne.2 hne
      have Hsp : Hid ((splitL 10 l).length = l.count 10 + 1) := hid (splitL_length 10 l)
      have Htf := hid htf
      have HD6 := hid (Blk.new w6 25 #[.string ⟨#[]⟩, .string ⟨#[]⟩, .slice none 0 0, .int .i64 0, .int .i64 0, .slice none 0 0])
      have HU6 := hid ((HU3.out.trans hU).alloc (.cells #[.string ⟨#[]⟩, .string ⟨#[]⟩, .slice none 0 0, .int .i64 0, .int .i64 0, .slice none 0 0] 25))
      clear hU htf hO Hpi HM HT
      have Hs := hid (bs_size l)
      have hsb : (bs l).size ≤ 1000000000000000 := by rw [bs_size]; exact hl
      clear hs
      go_upto_region 15 with (fail)
      revert HD6 HU6
      generalize w6.alloc (.cells #[.string ⟨#[]⟩, .string ⟨#[]⟩, .slice none 0 0, .int .i64 0, .int .i64 0, .slice none 0 0] 25) = wz
      intro HD6 HU6
      go_wp2
      go_loopw [15, 16] (fun tn ti wr => countRel l wz tn ti wr) (fun _ ti _ => (bs l).size - (intOf ti).toNat)
      case atStart => exact ⟨0, rfl, Nat.zero_le _, rfl, rfl⟩
      case round =>
        obtain ⟨k, rfl, hk, rfl, rfl⟩ := hrel
        have hk' : k ≤ (bs l).size := by rw [Hs.out]; exact hk
        by_cases hlt : k < (bs l).size
        · have hkl : k < l.length := by rw [← Hs.out]; exact hlt
          have hct := count_take hkl
          have hcle : (l.take k).count 10 ≤ k := Nat.le_trans List.count_le_length (by rw [List.length_take]; omega)
          have hb := ((bs l)[k]'hlt).toNat_lt
          by_cases hc : l[k] = 10
          · have hq : ((bs l)[k]'hlt).toNat = 10 := by rw [bs_get l k hlt, hc]; rfl
            rw [if_pos hc] at hct
            have Hct := hid hct
            clear hc hct
            generalize hcn : (l.take k).count 10 = cn at *
            have Hcn := hid hcn
            clear hcn
            have hw2 : wrap64 (((cn + 1 : Nat) : Int) + 1) = ((cn + 1 + 1 : Nat) : Int) := by unfold wrap64; omega
            go_wp2
            go_roundw
            case rel => exact ⟨k + 1, by go_num, by omega, by rw [Hct.out]; go_num, rfl⟩
            case measure => simp [intOf]; omega
          · have hq : ((((bs l)[k]'hlt).toNat : Int) == 10) = false := by
              rw [bs_get l k hlt, beq_eq_false_iff_ne]
              intro h
              exact hc (UInt8.toNat_inj.1 (Int.ofNat.inj h))
            have hq2 : ¬ (((bs l)[k]'hlt).toNat : Int) = 10 := beq_eq_false_iff_ne.1 hq
            rw [if_neg hc] at hct
            have Hct := hid hct
            clear hc hct
            go_wp2
            go_roundw
            case rel => exact ⟨k + 1, by go_num, by omega, by rw [Hct.out], rfl⟩
            case measure => simp [intOf]; omega
        · obtain rfl : k = (bs l).size := by omega
          have hcn : ((l.take (bs l).size).count 10 + 1 : Nat) = (splitL 10 l).length := by rw [Hsp.out, Hs.out, List.take_length]
          rw [hcn]
          have hsl : (splitL 10 l).length ≤ 1000000000000001 := by
            rw [Hsp.out]
            have := List.count_le_length (a := (10 : UInt8)) (l := l)
            omega
          clear hcn
          generalize (splitL 10 l).length = sl at *
          have Hsm := fun W => hid (sameCls_any zeroL zeroL W (zeroL_fit W) (zeroL_fit W) rfl)
          rw [zeroL_v] at Hsm
          have y0 := (HD6.out.cell 0).trans (show _ = some (.string ⟨#[]⟩) from rfl)
          have y1 := (HD6.out.cell 1).trans (show _ = some (.string ⟨#[]⟩) from rfl)
          have y2 := (HD6.out.cell 2).trans (show _ = some (.slice none 0 0) from rfl)
          have y3 := (HD6.out.cell 3).trans (show _ = some (.int .i64 0) from rfl)
          have y4 := (HD6.out.cell 4).trans (show _ = some (.int .i64 0) from rfl)
          have y5 := (HD6.out.cell 5).trans (show _ = some (.slice none 0 0) from rfl)
          have hly := HD6.out.lt
          go_wp2_with fail
          refine (Hsm _).out.mono ?_
          rintro e w7 ⟨rfl, hU⟩
          have HU7 := hid (HU6.out.trans hU)
          clear hU
          rcases Htf.out with ⟨rfl, h1, h2⟩ | ⟨rfl, rfl | rfl⟩
          · have h1' : (1 : Int) ≤ (n : Int) := by omega
            have h2' : (n : Int) ≤ (sl : Int) := by omega
            go_wp2
            go_ret
            exact ⟨by simp, HU7.out⟩
          · go_wp2
            go_ret
            exact ⟨by simp, HU7.out⟩
          · go_wp2
            go_ret
            exact ⟨by simp, HU7.out⟩
  | true =>
    simp only [errIf, Bool.false_eq_true, if_true, if_false] at Hpr Hck
    have Hrd : Hid (ReadsAs pt r0) := hid (Hrd.out rfl)
    by_cases hlen : pt.length ≤ 40000
    · have hlen2 : (pt.length : Int) ≤ 40000 := by omega
      have Hrd2 := hid (Hrd.out hlen)
      clear Hrd hlen
      have HB := hid (Blk.new w 25 #[.string (bs nm), .string (bs sup), .slice AI ifs.length cI, .int .i64 fl, .int .i64 ld, .slice AM ms.length cM])
      have HU := hid (show Upd w (w.alloc (.cells #[.string (bs nm), .string (bs sup), .slice AI ifs.length cI, .int .i64 fl, .int .i64 ld, .slice AM ms.length cM] 25)) [] from (Upd.refl _ _).alloc _)
      go_enter Tryz.func6, Tryz.ntmps6
      go_wp2_with fail
      refine (Haw _ HU.out).out.mono ?_
      rintro e w1 ⟨rfl, hU⟩
      have HB1 := hid (hU.blk HB.out (by simp))
      have HU1 := hid (HU.out.trans hU)
      clear hU HB HU Haw
      have x0 := (HB1.out.cell 0).trans (show _ = some (.string (bs nm)) from rfl)
      have x1 := (HB1.out.cell 1).trans (show _ = some (.string (bs sup)) from rfl)
      have x2 := (HB1.out.cell 2).trans (show _ = some (.slice AI ifs.length cI) from rfl)
      have x3 := (HB1.out.cell 3).trans (show _ = some (.int .i64 fl) from rfl)
      have x4 := (HB1.out.cell 4).trans (show _ = some (.int .i64 ld) from rfl)
      have x5 := (HB1.out.cell 5).trans (show _ = some (.slice AM ms.length cM) from rfl)
      have hl1 := HB1.out.lt
      go_wp2_with fail
      refine (Hpr _ HU1.out).out.mono ?_
      rintro e w2 ⟨rfl, hU⟩
      have HB2 := hid (hU.blk HB1.out (by simp))
      have HU2 := hid (HU1.out.trans hU)
      clear hU HB1 HU1 Hpr x0 x1 x2 x3 x4 x5 hl1
      have x0 := (HB2.out.cell 0).trans (show _ = some (.string (bs nm)) from rfl)
      have x1 := (HB2.out.cell 1).trans (show _ = some (.string (bs sup)) from rfl)
      have x2 := (HB2.out.cell 2).trans (show _ = some (.slice AI ifs.length cI) from rfl)
      have x3 := (HB2.out.cell 3).trans (show _ = some (.int .i64 fl) from rfl)
      have x4 := (HB2.out.cell 4).trans (show _ = some (.int .i64 ld) from rfl)
      have x5 := (HB2.out.cell 5).trans (show _ = some (.slice AM ms.length cM) from rfl)
      have hl2 := HB2.out.lt
      go_wp2_with fail
      refine (Hck _ HU2.out).out.mono ?_
      rintro e w3 ⟨rfl, hU⟩
      have HB3 := hid (hU.blk HB2.out (by simp))
      have HU3 := hid (HU2.out.trans hU)
      clear hU HB2 HU2 Hck x0 x1 x2 x3 x4 x5 hl2
      go_wp2_with fail
      refine (Hpi pt (by omega) _ HU3.out).out.mono ?_
      intro e w4 hp
      unfold textPost at hp
      rw [Hrd2.out] at hp
      simp only at hp
      obtain ⟨⟨vi, vm, cs, rfl, hL, hfi, kw, hk, hwf⟩, hU⟩ := hp
      have HFt := hid (hL.fit hfi hwf (by omega))
      have hval := hL.val
      have hsame := Hsm vi vm cs hL.len
      rw [hval] at hsame
      have Hsame := hid hsame
      obtain ⟨A1, c1, rfl, -, -⟩ := own_slice hL.oi
      obtain ⟨A2, c2, rfl, -, -⟩ := own_slice hL.om
      have HFt := hid (HFt.out.upd ((Upd.refl w4 []).alloc (.cells #[.string (bs r0.nm), .string (bs r0.sup), .slice A1 r0.ifs.length c1, .int .i64 r0.fl, .int .i64 r0.ld, .slice A2 r0.ms.length c2] 25)))
      have HB4 := hid ((hU.blk HB3.out (by simp)).alloc (.cells #[.string (bs r0.nm), .string (bs r0.sup), .slice A1 r0.ifs.length c1, .int .i64 r0.fl, .int .i64 r0.ld, .slice A2 r0.ms.length c2] 25))
      have HD4 := hid (Blk.new w4 25 #[.string (bs r0.nm), .string (bs r0.sup), .slice A1 r0.ifs.length c1, .int .i64 r0.fl, .int .i64 r0.ld, .slice A2 r0.ms.length c2])
      have HU4 := hid ((HU3.out.trans hU).alloc (.cells #[.string (bs r0.nm), .string (bs r0.sup), .slice A1 r0.ifs.length c1, .int .i64 r0.fl, .int .i64 r0.ld, .slice A2 r0.ms.length c2] 25))
      have hz4 : w.heap.size < w4.heap.size := (hU.blk HB3.out (by simp)).lt
      clear hU hL hfi hwf hk hval hsame Hsm
      have x0 := (HB4.out.cell 0).trans (show _ = some (.string (bs nm)) from rfl)
      have x1 := (HB4.out.cell 1).trans (show _ = some (.string (bs sup)) from rfl)
      have x2 := (HB4.out.cell 2).trans (show _ = some (.slice AI ifs.length cI) from rfl)
      have x3 := (HB4.out.cell 3).trans (show _ = some (.int .i64 fl) from rfl)
      have x4 := (HB4.out.cell 4).trans (show _ = some (.int .i64 ld) from rfl)
      have x5 := (HB4.out.cell 5).trans (show _ = some (.slice AM ms.length cM) from rfl)
      have y0 := (HD4.out.cell 0).trans (show _ = some (.string (bs r0.nm)) from rfl)
      have y1 := (HD4.out.cell 1).trans (show _ = some (.string (bs r0.sup)) from rfl)
      have y2 := (HD4.out.cell 2).trans (show _ = some (.slice A1 r0.ifs.length c1) from rfl)
      have y3 := (HD4.out.cell 3).trans (show _ = some (.int .i64 r0.fl) from rfl)
      have y4 := (HD4.out.cell 4).trans (show _ = some (.int .i64 r0.ld) from rfl)
      have y5 := (HD4.out.cell 5).trans (show _ = some (.slice A2 r0.ms.length c2) from rfl)
      go_wp2_with fail
      refine (Hsame.out _ HU4.out HFt.out).out.mono ?_
      rintro e w5 ⟨rfl, hU⟩
      have HB5 := hid (hU.blk HB4.out (by simp))
      have HU5 := hid (HU4.out.trans hU)
      clear hU
      go_wp2_with fail
      refine (Hpi l hl _ HU5.out).out.mono ?_
      intro e w6 hp
      unfold textPost at hp
      cases hO : textO l with
      | inl r =>
        rw [hO] at hp
        simp only at hp
        obtain ⟨⟨vi, vm, cs, rfl, hL, hfi, kw, hk, hwf⟩, hU⟩ := hp
        obtain ⟨ht1, ht2⟩ := (HT.out r).out hO
        have HFt := hid (hL.fit hfi hwf (by omega))
        have hval := hL.val
        have hcd : checkB (clsOf r vi vm cs) = true := (check_same r vi vm cs hL.len).trans ht2
        have hpd : printL (clsOf r vi vm cs) = l := (print_clsOf r vi vm cs hL.len).trans ht1
        have Hpr2 := fun W (hf : (clsOf r vi vm cs).fit W) (hm : Rdy W) => hid (print5_any (clsOf r vi vm cs) W hf hm)
        have Hck2 := fun W (hf : (clsOf r vi vm cs).fit W) (hm : Rdy W) => hid (check5_any (clsOf r vi vm cs) W hf hm.max)
        rw [hcd, hpd, hval] at Hpr2
        rw [hcd, hval] at Hck2
        simp only [if_true, errIf] at Hpr2 Hck2
        obtain ⟨A1, c1, rfl, -, -⟩ := own_slice hL.oi
        obtain ⟨A2, c2, rfl, -, -⟩ := own_slice hL.om
        have HFt := hid (HFt.out.upd ((Upd.refl w6 []).alloc (.cells #[.string (bs r.nm), .string (bs r.sup), .slice A1 r.ifs.length c1, .int .i64 r.fl, .int .i64 r.ld, .slice A2 r.ms.length c2] 25)))
        have HD6 := hid (Blk.new w6 25 #[.string (bs r.nm), .string (bs r.sup), .slice A1 r.ifs.length c1, .int .i64 r.fl, .int .i64 r.ld, .slice A2 r.ms.length c2])
        have HU6 := hid ((HU5.out.trans hU).alloc (.cells #[.string (bs r.nm), .string (bs r.sup), .slice A1 r.ifs.length c1, .int .i64 r.fl, .int .i64 r.ld, .slice A2 r.ms.length c2] 25))
        have hzz : w6.heap.size < (w6.alloc (.cells #[.string (bs r.nm), .string (bs r.sup), .slice A1 r.ifs.length c1, .int .i64 r.fl, .int .i64 r.ld, .slice A2 r.ms.length c2] 25)).heap.size := by simp
        clear hU hL hfi hwf hk ht1 ht2 hval hcd hpd hO Hpi
        have y0 := (HD6.out.cell 0).trans (show _ = some (.string (bs r.nm)) from rfl)
        have y1 := (HD6.out.cell 1).trans (show _ = some (.string (bs r.sup)) from rfl)
        have y2 := (HD6.out.cell 2).trans (show _ = some (.slice A1 r.ifs.length c1) from rfl)
        have y3 := (HD6.out.cell 3).trans (show _ = some (.int .i64 r.fl) from rfl)
        have y4 := (HD6.out.cell 4).trans (show _ = some (.int .i64 r.ld) from rfl)
        have y5 := (HD6.out.cell 5).trans (show _ = some (.slice A2 r.ms.length c2) from rfl)
        have hls : ((bs l).toList == (bs l).toList) = true := by simp
        go_wp2_with fail
        refine (Hpr2 _ HFt.out (HM.out.upd HU6.out)).out.mono ?_
        rintro e w7 ⟨rfl, hU⟩
        have HFt7 := hid (HFt.out.upd hU)
        have HD7 := hid (hU.blk HD6.out (by simp))
        have HU7 := hid (HU6.out.trans hU)
        clear hU HFt HD6 HU6 Hpr2 y0 y1 y2 y3 y4 y5 hzz
        have z0 := (HD7.out.cell 0).trans (show _ = some (.string (bs r.nm)) from rfl)
        have z1 := (HD7.out.cell 1).trans (show _ = some (.string (bs r.sup)) from rfl)
        have z2 := (HD7.out.cell 2).trans (show _ = some (.slice A1 r.ifs.length c1) from rfl)
        have z3 := (HD7.out.cell 3).trans (show _ = some (.int .i64 r.fl) from rfl)
        have z4 := (HD7.out.cell 4).trans (show _ = some (.int .i64 r.ld) from rfl)
        have z5 := (HD7.out.cell 5).trans (show _ = some (.slice A2 r.ms.length c2) from rfl)
        have hlz := HD7.out.lt
        go_wp2_with fail
        refine (Hck2 _ HFt7.out (HM.out.upd HU7.out)).out.mono ?_
        rintro e w8 ⟨rfl, hU⟩
        have HU8 := hid (HU7.out.trans hU)
        clear hU
        go_wp2
        go_ret
        exact ⟨rfl, HU8.out⟩
      | inr x =>
        rw [hO] at hp
        simp only at hp
        obtain ⟨n, e0⟩ := x
        simp only [zeroCls] at hp
        obtain ⟨rfl, hU⟩ := hp
        have htf := text_fault hO
        have hne : ¬ e0 = 0 := by rcases htf with ⟨h, -⟩ | ⟨-, h | h⟩ <;> omega
        have hneb : (e0 == 0) = false := beq_eq_false_iff_ne.2 hne
        have Hsp : Hid ((splitL 10 l).length = l.count 10 + 1) := hid (splitL_length 10 l)
        have Htf := hid htf
        have HD6 := hid (Blk.new w6 25 #[.string ⟨#[]⟩, .string ⟨#[]⟩, .slice none 0 0, .int .i64 0, .int .i64 0, .slice none 0 0])
        have HU6 := hid ((HU5.out.trans hU).alloc (.cells #[.string ⟨#[]⟩, .string ⟨#[]⟩, .slice none 0 0, .int .i64 0, .int .i64 0, .slice none 0 0] 25))
        clear hU htf hO Hpi HM HT
        have Hs := hid (bs_size l)
        have hsb : (bs l).size ≤ 1000000000000000 := by rw [bs_size]; exact hl
        clear hs
        go_upto_region 15 with (fail)
        revert HD6 HU6
        generalize w6.alloc (.cells #[.string ⟨#[]⟩, .string ⟨#[]⟩, .slice none 0 0, .int .i64 0, .int .i64 0, .slice none 0 0] 25) = wz
        intro HD6 HU6
        go_wp2
        go_loopw [15, 16] (fun tn ti wr => countRel l wz tn ti wr) (fun _ ti _ => (bs l).size - (intOf ti).toNat)
        case atStart => exact ⟨0, rfl, Nat.zero_le _, rfl, rfl⟩
        case round =>
          obtain ⟨k, rfl, hk, rfl, rfl⟩ := hrel
          have hk' : k ≤ (bs l).size := by rw [Hs.out]; exact hk
          by_cases hlt : k < (bs l).size
          · have hkl : k < l.length := by rw [← Hs.out]; exact hlt
            have hct := count_take hkl
            have hcle : (l.take k).count 10 ≤ k := Nat.le_trans List.count_le_length (by rw [List.length_take]; omega)
            have hb := ((bs l)[k]'hlt).toNat_lt
            by_cases hc : l[k] = 10
            · have hq : ((bs l)[k]'hlt).toNat = 10 := by rw [bs_get l k hlt, hc]; rfl
              rw [if_pos hc] at hct
              have Hct := hid hct
              clear hc hct
              generalize hcn : (l.take k).count 10 = cn at *
              have Hcn := hid hcn
              clear hcn
              have hw2 : wrap64 (((cn + 1 : Nat) : Int) + 1) = ((cn + 1 + 1 : Nat) : Int) := by unfold wrap64; omega
              go_wp2
              go_roundw
              case rel => exact ⟨k + 1, by go_num, by omega, by rw [Hct.out]; go_num, rfl⟩
              case measure => simp [intOf]; omega
            · have hq : ((((bs l)[k]'hlt).toNat : Int) == 10) = false := by
                rw [bs_get l k hlt, beq_eq_false_iff_ne]
                intro h
                exact hc (UInt8.toNat_inj.1 (Int.ofNat.inj h))
              have hq2 : ¬ (((bs l)[k]'hlt).toNat : Int) = 10 := beq_eq_false_iff_ne.1 hq
              rw [if_neg hc] at hct
              have Hct := hid hct
              clear hc hct
              go_wp2
              go_roundw
              case rel => exact ⟨k + 1, by go_num, by omega, by rw [Hct.out], rfl⟩
              case measure => simp [intOf]; omega
          · obtain rfl : k = (bs l).size := by omega
            have hcn : ((l.take (bs l).size).count 10 + 1 : Nat) = (splitL 10 l).length := by rw [Hsp.out, Hs.out, List.take_length]
            rw [hcn]
            have hsl : (splitL 10 l).length ≤ 1000000000000001 := by
              rw [Hsp.out]
              have := List.count_le_length (a := (10 : UInt8)) (l := l)
              omega
            clear hcn
            generalize (splitL 10 l).length = sl at *
            have Hsm := fun W => hid (sameCls_any zeroL zeroL W (zeroL_fit W) (zeroL_fit W) rfl)
            rw [zeroL_v] at Hsm
            have y0 := (HD6.out.cell 0).trans (show _ = some (.string ⟨#[]⟩) from rfl)
            have y1 := (HD6.out.cell 1).trans (show _ = some (.string ⟨#[]⟩) from rfl)
            have y2 := (HD6.out.cell 2).trans (show _ = some (.slice none 0 0) from rfl)
            have y3 := (HD6.out.cell 3).trans (show _ = some (.int .i64 0) from rfl)
            have y4 := (HD6.out.cell 4).trans (show _ = some (.int .i64 0) from rfl)
            have y5 := (HD6.out.cell 5).trans (show _ = some (.slice none 0 0) from rfl)
            have hly := HD6.out.lt
            go_wp2_with fail
            refine (Hsm _).out.mono ?_
            rintro e w7 ⟨rfl, hU⟩
            have HU7 := hid (HU6.out.trans hU)
            clear hU
            rcases Htf.out with ⟨rfl, h1, h2⟩ | ⟨rfl, rfl | rfl⟩
            · have h1' : (1 : Int) ≤ (n : Int) := by omega
              have h2' : (n : Int) ≤ (sl : Int) := by omega
              go_wp2
              go_ret
              exact ⟨by simp, HU7.out⟩
            · go_wp2
              go_ret
              exact ⟨by simp, HU7.out⟩
            · go_wp2
              go_ret
              exact ⟨by simp, HU7.out⟩
    · have hlen2 : ¬ (pt.length : Int) ≤ 40000 := by omega
      clear hlen Hrd Hsm
      have HB := hid (Blk.new w 25 #[.string (bs nm), .string (bs sup), .slice AI ifs.length cI, .int .i64 fl, .int .i64 ld, .slice AM ms.length cM])
      have HU := hid (show Upd w (w.alloc (.cells #[.string (bs nm), .string (bs sup), .slice AI ifs.length cI, .int .i64 fl, .int .i64 ld, .slice AM ms.length cM] 25)) [] from (Upd.refl _ _).alloc _)
      go_enter Tryz.func6, Tryz.ntmps6
      go_wp2_with fail
      refine (Haw _ HU.out).out.mono ?_
      rintro e w1 ⟨rfl, hU⟩
      have HB1 := hid (hU.blk HB.out (by simp))
      have HU1 := hid (HU.out.trans hU)
      clear hU HB HU Haw
      have x0 := (HB1.out.cell 0).trans (show _ = some (.string (bs nm)) from rfl)
      have x1 := (HB1.out.cell 1).trans (show _ = some (.string (bs sup)) from rfl)
      have x2 := (HB1.out.cell 2).trans (show _ = some (.slice AI ifs.length cI) from rfl)
      have x3 := (HB1.out.cell 3).trans (show _ = some (.int .i64 fl) from rfl)
      have x4 := (HB1.out.cell 4).trans (show _ = some (.int .i64 ld) from rfl)
      have x5 := (HB1.out.cell 5).trans (show _ = some (.slice AM ms.length cM) from rfl)
      have hl1 := HB1.out.lt
      go_wp2_with fail
      refine (Hpr _ HU1.out).out.mono ?_
      rintro e w2 ⟨rfl, hU⟩
      have HB2 := hid (hU.blk HB1.out (by simp))
      have HU2 := hid (HU1.out.trans hU)
      clear hU HB1 HU1 Hpr x0 x1 x2 x3 x4 x5 hl1
      have x0 := (HB2.out.cell 0).trans (show _ = some (.string (bs nm)) from rfl)
      have x1 := (HB2.out.cell 1).trans (show _ = some (.string (bs sup)) from rfl)
      have x2 := (HB2.out.cell 2).trans (show _ = some (.slice AI ifs.length cI) from rfl)
      have x3 := (HB2.out.cell 3).trans (show _ = some (.int .i64 fl) from rfl)
      have x4 := (HB2.out.cell 4).trans (show _ = some (.int .i64 ld) from rfl)
      have x5 := (HB2.out.cell 5).trans (show _ = some (.slice AM ms.length cM) from rfl)
      have hl2 := HB2.out.lt
      go_wp2_with fail
      refine (Hck _ HU2.out).out.mono ?_
      rintro e w3 ⟨rfl, hU⟩
      have HB3 := hid (hU.blk HB2.out (by simp))
      have HU3 := hid (HU2.out.trans hU)
      clear hU HB2 HU2 Hck x0 x1 x2 x3 x4 x5 hl2
      go_wp2_with fail
      refine (Hpi l hl _ HU3.out).out.mono ?_
      intro e w6 hp
      unfold textPost at hp
      cases hO : textO l with
      | inl r =>
        rw [hO] at hp
        simp only at hp
        obtain ⟨⟨vi, vm, cs, rfl, hL, hfi, kw, hk, hwf⟩, hU⟩ := hp
        obtain ⟨ht1, ht2⟩ := (HT.out r).out hO
        have HFt := hid (hL.fit hfi hwf (by omega))
        have hval := hL.val
        have hcd : checkB (clsOf r vi vm cs) = true := (check_same r vi vm cs hL.len).trans ht2
        have hpd : printL (clsOf r vi vm cs) = l := (print_clsOf r vi vm cs hL.len).trans ht1
        have Hpr2 := fun W (hf : (clsOf r vi vm cs).fit W) (hm : Rdy W) => hid (print5_any (clsOf r vi vm cs) W hf hm)
        have Hck2 := fun W (hf : (clsOf r vi vm cs).fit W) (hm : Rdy W) => hid (check5_any (clsOf r vi vm cs) W hf hm.max)
        rw [hcd, hpd, hval] at Hpr2
        rw [hcd, hval] at Hck2
        simp only [if_true, errIf] at Hpr2 Hck2
        obtain ⟨A1, c1, rfl, -, -⟩ := own_slice hL.oi
        obtain ⟨A2, c2, rfl, -, -⟩ := own_slice hL.om
        have HFt := hid (HFt.out.upd ((Upd.refl w6 []).alloc (.cells #[.string (bs r.nm), .string (bs r.sup), .slice A1 r.ifs.length c1, .int .i64 r.fl, .int .i64 r.ld, .slice A2 r.ms.length c2] 25)))
        have HD6 := hid (Blk.new w6 25 #[.string (bs r.nm), .string (bs r.sup), .slice A1 r.ifs.length c1, .int .i64 r.fl, .int .i64 r.ld, .slice A2 r.ms.length c2])
        have HU6 := hid ((HU3.out.trans hU).alloc (.cells #[.string (bs r.nm), .string (bs r.sup), .slice A1 r.ifs.length c1, .int .i64 r.fl, .int .i64 r.ld, .slice A2 r.ms.length c2] 25))
        have hzz : w6.heap.size < (w6.alloc (.cells #[.string (bs r.nm), .string (bs r.sup), .slice A1 r.ifs.length c1, .int .i64 r.fl, .int .i64 r.ld, .slice A2 r.ms.length c2] 25)).heap.size := by simp
        clear hU hL hfi hwf hk ht1 ht2 hval hcd hpd hO Hpi
        have y0 := (HD6.out.cell 0).trans (show _ = some (.string (bs r.nm)) from rfl)
        have y1 := (HD6.out.cell 1).trans (show _ = some (.string (bs r.sup)) from rfl)
        have y2 := (HD6.out.cell 2).trans (show _ = some (.slice A1 r.ifs.length c1) from rfl)
        have y3 := (HD6.out.cell 3).trans (show _ = some (.int .i64 r.fl) from rfl)
        have y4 := (HD6.out.cell 4).trans (show _ = some (.int .i64 r.ld) from rfl)
        have y5 := (HD6.out.cell 5).trans (show _ = some (.slice A2 r.ms.length c2) from rfl)
        have hls : ((bs l).toList == (bs l).toList) = true := by simp
        go_wp2_with fail
        refine (Hpr2 _ HFt.out (HM.out.upd HU6.out)).out.mono ?_
        rintro e w7 ⟨rfl, hU⟩
        have HFt7 := hid (HFt.out.upd hU)
        have HD7 := hid (hU.blk HD6.out (by simp))
        have HU7 := hid (HU6.out.trans hU)
        clear hU HFt HD6 HU6 Hpr2 y0 y1 y2 y3 y4 y5 hzz
        have z0 := (HD7.out.cell 0).trans (show _ = some (.string (bs r.nm)) from rfl)
        have z1 := (HD7.out.cell 1).trans (show _ = some (.string (bs r.sup)) from rfl)
        have z2 := (HD7.out.cell 2).trans (show _ = some (.slice A1 r.ifs.length c1) from rfl)
        have z3 := (HD7.out.cell 3).trans (show _ = some (.int .i64 r.fl) from rfl)
        have z4 := (HD7.out.cell 4).trans (show _ = some (.int .i64 r.ld) from rfl)
        have z5 := (HD7.out.cell 5).trans (show _ = some (.slice A2 r.ms.length c2) from rfl)
        have hlz := HD7.out.lt
        go_wp2_with fail
        refine (Hck2 _ HFt7.out (HM.out.upd HU7.out)).out.mono ?_
        rintro e w8 ⟨rfl, hU⟩
        have HU8 := hid (HU7.out.trans hU)
        clear hU
        go_wp2
        go_ret
        exact ⟨rfl, HU8.out⟩
      | inr x =>
        rw [hO] at hp
        simp only at hp
        obtain ⟨n, e0⟩ := x
        simp only [zeroCls] at hp
        obtain ⟨rfl, hU⟩ := hp
        have htf := text_fault hO
        have hne : ¬ e0 = 0 := by rcases htf with ⟨h, -⟩ | ⟨-, h | h⟩ <;> omega
        have hneb : (e0 == 0) = false := beq_eq_false_iff_ne.2 hne
        have Hsp : Hid ((splitL 10 l).length = l.count 10 + 1) := hid (splitL_length 10 l)
        have Htf := hid htf
        have HD6 := hid (Blk.new w6 25 #[.string ⟨#[]⟩, .string ⟨#[]⟩, .slice none 0 0, .int .i64 0, .int .i64 0, .slice none 0 0])
        have HU6 := hid ((HU3.out.trans hU).alloc (.cells #[.string ⟨#[]⟩, .string ⟨#[]⟩, .slice none 0 0, .int .i64 0, .int .i64 0, .slice none 0 0] 25))
        clear hU htf hO Hpi HM HT
        have Hs := hid (bs_size l)
        have hsb : (bs l).size ≤ 1000000000000000 := by rw [bs_size]; exact hl
        clear hs
        go_upto_region 15 with (fail)
        revert HD6 HU6
        generalize w6.alloc (.cells #[.string ⟨#[]⟩, .string ⟨#[]⟩, .slice none 0 0, .int .i64 0, .int .i64 0, .slice none 0 0] 25) = wz
        intro HD6 HU6
        go_wp2
        go_loopw [15, 16] (fun tn ti wr => countRel l wz tn ti wr) (fun _ ti _ => (bs l).size - (intOf ti).toNat)
        case atStart => exact ⟨0, rfl, Nat.zero_le _, rfl, rfl⟩
        case round =>
          obtain ⟨k, rfl, hk, rfl, rfl⟩ := hrel
          have hk' : k ≤ (bs l).size := by rw [Hs.out]; exact hk
          by_cases hlt : k < (bs l).size
          · have hkl : k < l.length := by rw [← Hs.out]; exact hlt
            have hct := count_take hkl
            have hcle : (l.take k).count 10 ≤ k := Nat.le_trans List.count_le_length (by rw [List.length_take]; omega)
            have hb := ((bs l)[k]'hlt).toNat_lt
            by_cases hc : l[k] = 10
            · have hq : ((bs l)[k]'hlt).toNat = 10 := by rw [bs_get l k hlt, hc]; rfl
              rw [if_pos hc] at hct
              have Hct := hid hct
              clear hc hct
              generalize hcn : (l.take k).count 10 = cn at *
              have Hcn := hid hcn
              clear hcn
              have hw2 : wrap64 (((cn + 1 : Nat) : Int) + 1) = ((cn + 1 + 1 : Nat) : Int) := by unfold wrap64; omega
              go_wp2
              go_roundw
              case rel => exact ⟨k + 1, by go_num, by omega, by rw [Hct.out]; go_num, rfl⟩
              case measure => simp [intOf]; omega
            · have hq : ((((bs l)[k]'hlt).toNat : Int) == 10) = false := by
                rw [bs_get l k hlt, beq_eq_false_iff_ne]
                intro h
                exact hc (UInt8.toNat_inj.1 (Int.ofNat.inj h))
              have hq2 : ¬ (((bs l)[k]'hlt).toNat : Int) = 10 := beq_eq_false_iff_ne.1 hq
              rw [if_neg hc] at hct
              have Hct := hid hct
              clear hc hct
              go_wp2
              go_roundw
              case rel => exact ⟨k + 1, by go_num, by omega, by rw [Hct.out], rfl⟩
              case measure => simp [intOf]; omega
          · obtain rfl : k = (bs l).size := by omega
            have hcn : ((l.take (bs l).size).count 10 + 1 : Nat) = (splitL 10 l).length := by rw [Hsp.out, Hs.out, List.take_length]
            rw [hcn]
            have hsl : (splitL 10 l).length ≤ 1000000000000001 := by
              rw [Hsp.out]
              have := List.count_le_length (a := (10 : UInt8)) (l := l)
              omega
            clear hcn
            generalize (splitL 10 l).length = sl at *
            have Hsm := fun W => hid (sameCls_any zeroL zeroL W (zeroL_fit W) (zeroL_fit W) rfl)
            rw [zeroL_v] at Hsm
            have y0 := (HD6.out.cell 0).trans (show _ = some (.string ⟨#[]⟩) from rfl)
            have y1 := (HD6.out.cell 1).trans (show _ = some (.string ⟨#[]⟩) from rfl)
            have y2 := (HD6.out.cell 2).trans (show _ = some (.slice none 0 0) from rfl)
            have y3 := (HD6.out.cell 3).trans (show _ = some (.int .i64 0) from rfl)
            have y4 := (HD6.out.cell 4).trans (show _ = some (.int .i64 0) from rfl)
            have y5 := (HD6.out.cell 5).trans (show _ = some (.slice none 0 0) from rfl)
            have hly := HD6.out.lt
            go_wp2_with fail
            refine (Hsm _).out.mono ?_
            rintro e w7 ⟨rfl, hU⟩
            have HU7 := hid (HU6.out.trans hU)
            clear hU
            rcases Htf.out with ⟨rfl, h1, h2⟩ | ⟨rfl, rfl | rfl⟩
            · have h1' : (1 : Int) ≤ (n : Int) := by omega
              have h2' : (n : Int) ≤ (sl : Int) := by omega
              go_wp2
              go_ret
              exact ⟨by simp, HU7.out⟩
            · go_wp2
              go_ret
              exact ⟨by simp, HU7.out⟩
            · go_wp2
              go_ret
              exact ⟨by simp, HU7.out⟩
end Go.Proofs.YtjjdlgjofjfgmaaGreatDoor
