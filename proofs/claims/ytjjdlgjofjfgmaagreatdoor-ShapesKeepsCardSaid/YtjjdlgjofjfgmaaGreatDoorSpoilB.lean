/-
 SpoilClass: it writes into the lists of the class that it is given, and into new memory. (Printed by gen_spoil.py.)
-/
import Derived.Test.YtjjdlgjofjfgmaaGreatDoorSpoilA
import Derived.Test.YtjjdlgjofjfgmaaGreatDoorKQ
import Derived.OwnWalk
import Derived.Deep.MidRow
set_option linter.unusedSimpArgs false
set_option linter.unusedVariables false
namespace Go.Proofs.YtjjdlgjofjfgmaaGreatDoor
open Go.RowKit Go.Sort
def Grow (w : World) (F : List Nat) (e : TypeId) (size : Nat) (bound : Nat) (v : Value) (wr : World) : Prop := ∃ n, n ≤ bound ∧ Row wr e size v n ∧ ∀ b, v.ownBlock = some b → b ∈ F ∨ w.heap.size ≤ b
set_option maxHeartbeats 8000000 in
set_option maxRecDepth 100000 in
theorem spoil_walk (w : World) (F : List Nat) (nm sup : List UInt8) (fl ld : Int) (A1 A2 : Option Addr) (ni nmm c1 c2 : Nat) (cs : List Value) (ln : Nat → Nat) (hcs : cs.length = nmm) (h1 : ni ≤ 50000) (h2 : nmm ≤ 50000) (h3 : ∀ i, ln i ≤ 50000)
  (ap : Apart w F (.slice A1 ni c1) (.slice A2 nmm c2) cs) (hri : Row w 9 1 (.slice A1 ni c1) ni) (hrm : Row w 34 6 (.slice A2 nmm c2) nmm) (hce : ∀ i (hi : i < cs.length), ∀ gm, (Value.slice A2 nmm c2).ownBlock = some gm → w.cell? ⟨gm, i * 6 + 5, none⟩ = some cs[i]) (hrc : ∀ i (hi : i < cs.length), Row w 41 7 cs[i] (ln i)) :
  Calls Tryz.prog 29 #[.agg #[.string (bs nm), .string (bs sup), .slice A1 ni c1, .int .i64 fl, .int .i64 ld, .slice A2 nmm c2]] w fun e w' => e = .returned (.tuple #[]) ∧ Upd w w' F := by
 have hlt0 : ∀ b, b ∈ F → b < w.heap.size := ap.lt
 have hS0 : SpI w F #[.string (bs nm), .string (bs sup), .slice A1 ni c1, .int .i64 fl, .int .i64 ld, .slice A2 nmm c2] (.slice A1 ni c1) (.slice A2 nmm c2) ni nmm cs ln 0 (w.alloc (.cells #[.string (bs nm), .string (bs sup), .slice A1 ni c1, .int .i64 fl, .int .i64 ld, .slice A2 nmm c2] 25)) := by
  have hal : ∀ b, b < w.heap.size → (w.alloc (.cells #[.string (bs nm), .string (bs sup), .slice A1 ni c1, .int .i64 fl, .int .i64 ld, .slice A2 nmm c2] 25)).heap[b]? = w.heap[b]? := fun b hb => Below.heap_alloc w _ b hb
  have hsz : w.heap.size ≤ (w.alloc (.cells #[.string (bs nm), .string (bs sup), .slice A1 ni c1, .int .i64 fl, .int .i64 ld, .slice A2 nmm c2] 25)).heap.size := by simp
  exact ⟨Blk.new _ _ _, ((Upd.refl w F).alloc _), hri.other hsz (fun b hb => hal b (hlt0 b (ap.fi b hb))), hrm.other hsz (fun b hb => hal b (hlt0 b (ap.fm b hb))),
   fun i hi _ gm hgm => (World.cell?_of_block (a := ⟨gm, i * 6 + 5, none⟩) (hal gm (hlt0 gm (ap.fm gm hgm)))).trans (hce i hi gm hgm), fun i hi _ => (hrc i hi).other hsz (fun b hb => hal b (hlt0 b (ap.fc i hi b hb)))⟩
 have HS0 := hid hS0
 have HAP := hid ap
 have Hcs := hid hcs
 have H3 := hid h3
 obtain ⟨i0, hi0, hz0, hz1, hz2⟩ := info_parts infoString
 obtain ⟨im, hm0, hm1, hm2, hm3⟩ := info_parts infoMeth
 obtain ⟨ii, hn0, hn1, hn2, hn3⟩ := info_parts infoInst7
 clear hS0 ap hcs h3 hri hrm hce hrc hlt0
 go_enter Tryz.func29, Tryz.ntmps29
 go_wp2
 go_loopw [2] (fun t wr => ∃ k : Nat, t = .int .i64 k ∧ k ≤ nmm ∧ Hid (SpI w F #[.string (bs nm), .string (bs sup), .slice A1 ni c1, .int .i64 fl, .int .i64 ld, .slice A2 nmm c2] (.slice A1 ni c1) (.slice A2 nmm c2) ni nmm cs ln k wr)) (fun t _ => nmm - (intOf t).toNat)
 case atStart => exact ⟨0, rfl, Nat.zero_le _, HS0⟩
 case round =>
  obtain ⟨k, rfl, hk, HS⟩ := hrel
  have z5 := (HS.out.blk.cell 5).trans (show _ = some (.slice A2 nmm c2) from rfl)
  have hb0 := HS.out.blk.lt
  by_cases hlt : k < nmm
  ·have hkc : k < cs.length := by have := Hcs.out; omega
   have hrm := HS.out.rm
   obtain ⟨xm, hrm0⟩ := hrm
   obtain ⟨gm, cm', hv, -, -, hgm⟩ := own_form hrm0 (by omega)
   cases hv
   have hce := HS.out.cell k hkc (Nat.le_refl _) gm rfl
   obtain ⟨xc, hrc⟩ := HS.out.rc k hkc (Nat.le_refl _)
   obtain ⟨Ak, ck, hck, hle, -⟩ := own_slice hrc
   rw [hck] at hce
   have hlk := H3.out k
   have Hck := hid hck
   clear hrm0 hrc hck
   go_wp2
   go_loopw [4] (fun t wx => ∃ j : Nat, t = .int .i64 j ∧ j ≤ ln k ∧ Hid (SpI w F #[.string (bs nm), .string (bs sup), .slice A1 ni c1, .int .i64 fl, .int .i64 ld, .slice (some ⟨gm, 0, none⟩) nmm c2] (.slice A1 ni c1) (.slice (some ⟨gm, 0, none⟩) nmm c2) ni nmm cs ln k wx)) (fun t _ => ln k - (intOf t).toNat)
   case atStart => exact ⟨0, rfl, Nat.zero_le _, HS⟩
   case round =>
    obtain ⟨j, rfl, hj, HX⟩ := hrel
    by_cases hjl : j < ln k
    ·have hrow := HX.out.rc k hkc (Nat.le_refl _)
     rw [Hck.out] at hrow
     obtain ⟨xr, hrow0⟩ := hrow
     obtain ⟨gk, ck', hv, -, -, hgk⟩ := own_form hrow0 (by omega)
     cases hv
     have hrow := HX.out.rc k hkc (Nat.le_refl _)
     rw [Hck.out] at hrow
     obtain ⟨⟨v0, e0⟩, g0⟩ := hrow.at_ (j * 7) (by omega)
     obtain ⟨⟨v1, e1⟩, g1⟩ := hrow.at_ (j * 7 + 1) (by omega)
     obtain ⟨⟨v2, e2⟩, g2⟩ := hrow.at_ (j * 7 + 2) (by omega)
     obtain ⟨⟨v3, e3⟩, g3⟩ := hrow.at_ (j * 7 + 3) (by omega)
     obtain ⟨⟨v4, e4⟩, g4⟩ := hrow.at_ (j * 7 + 4) (by omega)
     obtain ⟨⟨v5, e5⟩, g5⟩ := hrow.at_ (j * 7 + 5) (by omega)
     obtain ⟨⟨v6, e6⟩, g6⟩ := hrow.at_ (j * 7 + 6) (by omega)
     clear hrow hrow0
     go_wp2
     rw [seven_set]
     have HX' := hid (HX.out.setCode HAP.out hkc Hck.out rfl (j * 7) [.int .i64 6, .int .i64 0, .string ⟨#[]⟩, .bool false, .string ⟨#[]⟩, .string ⟨#[]⟩, .string ⟨#[]⟩])
     revert HX'
     generalize wr.setCells gk (j * 7) [.int .i64 6, .int .i64 0, .string ⟨#[]⟩, .bool false, .string ⟨#[]⟩, .string ⟨#[]⟩, .string ⟨#[]⟩] = wy
     intro HX'
     go_wp2
     go_roundw
     case rel => exact ⟨j + 1, by go_num, by omega, HX'⟩
     case measure => simp [intOf]; omega
    ·have hjk : j = ln k := by omega
     have HR0 : Hid (∃ xs, wr.ownsRow 0 41 7 (.slice Ak (ln k) ck) (ln k) xs) := hid (by
      have t := HX.out.rc k hkc (Nat.le_refl _)
      rw [Hck.out] at t
      exact t)
     have HZ0 := hid HX.out.succ
     clear HX hjk
     go_wp2
     go_loopw [3, 5] (fun v t wx => ∃ (i n : Nat) (Av : Option Addr) (cp : Nat), v = .slice Av n cp ∧ t = .int .i64 i ∧ i ≤ 3 ∧ n ≤ 50000 + i ∧ Hid (∃ xs, wx.ownsRow 0 41 7 (.slice Av n cp) n xs) ∧ Hid (∀ b, (Value.slice Av n cp).ownBlock = some b → cs[k].ownBlock = some b ∨ w.heap.size ≤ b) ∧ Hid (SpI w F #[.string (bs nm), .string (bs sup), .slice A1 ni c1, .int .i64 fl, .int .i64 ld, .slice (some ⟨gm, 0, none⟩) nmm c2] (.slice A1 ni c1) (.slice (some ⟨gm, 0, none⟩) nmm c2) ni nmm cs ln (k + 1) wx)) (fun _ t _ => 3 - (intOf t).toNat)
     case atStart => exact ⟨0, ln k, Ak, ck, rfl, rfl, by omega, by omega, HR0, hid (fun b hb => .inl (by rw [Hck.out]; exact hb)), HZ0⟩
     case round =>
      obtain ⟨i, n, Av, cp, rfl, rfl, hi, hn, HR, HBd, HS3⟩ := hrel
      have hsz := HS3.out.os.size
      by_cases hi3 : i < 3
      ·obtain ⟨xv, hrv⟩ := HR.out
       have HRv := hid hrv
       clear hrv HR
       go_upto_region 11 with (at_builtin; (refine wpList_append_one _ rfl (.tmp 37) (.tmp 39) 32 rfl 41 ii _ 7 88 Tryz.underlying32 hn0 hn1 hn2 hn3 rfl (by decide) (by decide) (.slice Av n cp) n xv rfl (by exact ((Upd.refl wr []).alloc _).own HRv.out (fun _ _ => by simp)) (by omega) wr.heap.size 41 #[.int .i64 6, .int .i64 0, .string ⟨#[]⟩, .bool false, .string ⟨#[]⟩, .string ⟨#[]⟩, .string ⟨#[]⟩] rfl (by exact Blk.new _ _ _) rfl rfl ?_; go_loud (intro g' cap' w2 hown' hg' hat'; have HS4 := hid (HS3.out.grow HAP.out hkc HRv.out HBd.out hg'); have HR4 := hid hown'; have HB4 := hid (fun b (hb : (Value.slice (some ⟨g', 0, none⟩) (n + 1) cap').ownBlock = some b) => (by simp [Value.ownBlock] at hb; subst hb; rcases hat' with h | h; exact HBd.out _ h; exact .inr (by rw [h]; simp; omega) : cs[k].ownBlock = some b ∨ w.heap.size ≤ b)); clear hown' hg' hat')))
       go_wp2
       go_roundw
       case rel => exact ⟨i + 1, n + 1, _, _, rfl, (by go_num), by omega, by omega, hid ⟨_, HR4.out⟩, HB4, HS4⟩
       case measure => simp [intOf]; omega
      ·obtain rfl : i = 3 := by omega
       have z5 := (HS3.out.blk.cell 5).trans (show _ = some (.slice (some ⟨gm, 0, none⟩) nmm c2) from rfl)
       have hb0 := HS3.out.blk.lt
       have hrow := HS3.out.rm
       obtain ⟨⟨v0, e0⟩, g0⟩ := hrow.at_ (k * 6) (by omega)
       obtain ⟨⟨v1, e1⟩, g1⟩ := hrow.at_ (k * 6 + 1) (by omega)
       obtain ⟨⟨v2, e2⟩, g2⟩ := hrow.at_ (k * 6 + 2) (by omega)
       obtain ⟨⟨v3, e3⟩, g3⟩ := hrow.at_ (k * 6 + 3) (by omega)
       obtain ⟨⟨v4, e4⟩, g4⟩ := hrow.at_ (k * 6 + 4) (by omega)
       obtain ⟨⟨v5, e5⟩, g5⟩ := hrow.at_ (k * 6 + 5) (by omega)
       clear hrow
       go_wp2
       rw [six_set]
       have HX' := hid (HS3.out.setMeth HAP.out rfl [.string ⟨#[115, 112, 111, 105, 108, 116]⟩, .string ⟨#[]⟩, .int .i64 0, .int .i64 0, .int .i64 0, .slice Av n cp] rfl)
       revert HX'
       generalize wr.setCells gm (k * 6) [.string ⟨#[115, 112, 111, 105, 108, 116]⟩, .string ⟨#[]⟩, .int .i64 0, .int .i64 0, .int .i64 0, .slice Av n cp] = wy
       intro HX'
       go_wp2
       go_roundw
       case rel => exact ⟨k + 1, (by go_num), by omega, HX'⟩
       case measure => simp [intOf]; omega
  ·obtain rfl : k = nmm := by omega
   go_wp2
   clear z5 hb0
   go_loopw [6] (fun t wx => ∃ j : Nat, t = .int .i64 j ∧ j ≤ ni ∧ Hid (SpI w F #[.string (bs nm), .string (bs sup), .slice A1 ni c1, .int .i64 fl, .int .i64 ld, .slice A2 k c2] (.slice A1 ni c1) (.slice A2 k c2) ni k cs ln k wx)) (fun t _ => ni - (intOf t).toNat)
   case atStart => exact ⟨0, rfl, Nat.zero_le _, HS⟩
   case round =>
    obtain ⟨j, rfl, hj, HX⟩ := hrel
    have z2 := (HX.out.blk.cell 2).trans (show _ = some (.slice A1 ni c1) from rfl)
    have z5 := (HX.out.blk.cell 5).trans (show _ = some (.slice A2 k c2) from rfl)
    have hbx := HX.out.blk.lt
    by_cases hjl : j < ni
    ·obtain ⟨xi, hri0⟩ := HX.out.ri
     obtain ⟨gi, ci', hv, -, -, hgi⟩ := own_form hri0 (by omega)
     cases hv
     obtain ⟨⟨v0, e0⟩, g0⟩ := HX.out.ri.at_ j (by omega)
     clear hri0
     go_wp2
     have HX' := hid (HX.out.setIf HAP.out rfl j (.string ⟨#[115, 112, 111, 105, 108, 116]⟩))
     revert HX'
     generalize wr.setCell ⟨gi, j, none⟩ (.string ⟨#[115, 112, 111, 105, 108, 116]⟩) = wy
     intro HX'
     go_roundw
     case rel => exact ⟨j + 1, (by go_num), by omega, HX'⟩
     case measure => simp [intOf]; omega
    ·obtain rfl : j = ni := by omega
     have HX0 := hid HX.out.ri
     have HX1 := hid HX.out.rm
     have HX2 := hid HX.out.os
     have HFi := hid (fun b (hb : (Value.slice A1 j c1).ownBlock = some b) => (.inl (HAP.out.fi b hb) : b ∈ F ∨ w.heap.size ≤ b))
     have HFm := hid (fun b (hb : (Value.slice A2 k c2).ownBlock = some b) => (.inl (HAP.out.fm b hb) : b ∈ F ∨ w.heap.size ≤ b))
     clear HX
     go_wp2
     clear z2 z5 hbx
     go_loopw [7, 8, 9] (fun x y t wx => ∃ (i nx ny : Nat) (Ax : Option Addr) (cx : Nat) (Ay : Option Addr) (cy : Nat), x = .slice Ax nx cx ∧ y = .slice Ay ny cy ∧ t = .int .i64 i ∧ i ≤ 3 ∧ i ≤ nx ∧ i ≤ ny ∧ nx ≤ 50000 + i ∧ ny ≤ 50000 + i ∧ Hid (Row wx 9 1 (.slice Ax nx cx) nx) ∧ Hid (Row wx 34 6 (.slice Ay ny cy) ny) ∧ Hid (∀ b, (Value.slice Ax nx cx).ownBlock = some b → b ∈ F ∨ w.heap.size ≤ b) ∧ Hid (∀ b, (Value.slice Ay ny cy).ownBlock = some b → b ∈ F ∨ w.heap.size ≤ b) ∧ Hid (Upd w wx F)) (fun _ _ t _ => 3 - (intOf t).toNat)
     case atStart => exact ⟨0, j, k, A1, c1, A2, c2, rfl, rfl, rfl, by omega, by omega, by omega, by omega, by omega, HX0, HX1, HFi, HFm, HX2⟩
     case round =>
      obtain ⟨i, nx, ny, Ax, cx, Ay, cy, rfl, rfl, rfl, hi, hx0, hy0, hx, hy, HRx, HRy, HBx, HBy, HU⟩ := hrel
      have hsz := HU.out.size
      by_cases hi3 : i < 3
      ·obtain ⟨xv, hrv⟩ := HRx.out
       have HRv := hid hrv
       obtain ⟨yv, hry⟩ := HRy.out
       have HRw := hid hry
       clear hrv hry HRx HRy
       go_upto_region 22 with (at_builtin; first
        | (refine wpList_append_one _ rfl (.tmp 66) (.tmp 67) 22 rfl 9 i0 _ 1 16 Tryz.underlying22 hi0 hz0 hz1 hz2 rfl (by decide) (by decide) (.slice Ax nx cx) nx xv rfl (by exact ((Upd.refl wr []).alloc _).own HRv.out (fun _ _ => by simp)) (by omega) wr.heap.size 9 #[.string ⟨#[115, 112, 111, 105, 108, 116]⟩] rfl (by exact Blk.new _ _ _) rfl rfl ?_; go_loud (intro g' cap' w2 hown' hg' hat'; have HR4 := hid hown'; have HU4 := hid ((HU.out.alloc (.cells #[.string ⟨#[115, 112, 111, 105, 108, 116]⟩] 9)).grown hg' HBx.out); have HR5 := hid (own_grown_own (((Upd.refl wr []).alloc (.cells #[.string ⟨#[115, 112, 111, 105, 108, 116]⟩] 9)).own HRw.out (fun _ _ => by simp)) hg' (((Upd.refl wr []).alloc _).own HRv.out (fun _ _ => by simp)) (by decide)); have HB4 := hid (fun b (hb : (Value.slice (some ⟨g', 0, none⟩) (nx + 1) cap').ownBlock = some b) => (by simp [Value.ownBlock] at hb; subst hb; rcases hat' with h | h; exact HBx.out _ h; exact .inr (by rw [h]; simp; omega) : b ∈ F ∨ w.heap.size ≤ b)); have hsz2 := HU4.out.size; clear hown' hg' hat'))
        | (refine wpList_append_one _ rfl (.tmp 69) (.tmp 71) 23 rfl 34 im _ 6 80 Tryz.underlying23 hm0 hm1 hm2 hm3 rfl (by decide) (by decide) (.slice Ay ny cy) ny yv rfl (by exact ((Upd.refl w2 []).alloc _).own HR5.out (fun _ _ => by simp)) (by omega) w2.heap.size 34 #[.string ⟨#[115, 112, 111, 105, 108, 116]⟩, .string ⟨#[]⟩, .int .i64 0, .int .i64 0, .int .i64 0, .slice none 0 0] rfl (by exact Blk.new _ _ _) rfl rfl ?_; go_loud (intro h' kap' w3 hown' hg' hat'; have HR6 := hid hown'; have HU6 := hid ((HU4.out.alloc (.cells #[.string ⟨#[115, 112, 111, 105, 108, 116]⟩, .string ⟨#[]⟩, .int .i64 0, .int .i64 0, .int .i64 0, .slice none 0 0] 34)).grown hg' HBy.out); have HR7 := hid (own_grown_own (((Upd.refl w2 []).alloc (.cells #[.string ⟨#[115, 112, 111, 105, 108, 116]⟩, .string ⟨#[]⟩, .int .i64 0, .int .i64 0, .int .i64 0, .slice none 0 0] 34)).own HR4.out (fun _ _ => by simp)) hg' (((Upd.refl w2 []).alloc _).own HR5.out (fun _ _ => by simp)) (by decide)); have HB6 := hid (fun b (hb : (Value.slice (some ⟨h', 0, none⟩) (ny + 1) kap').ownBlock = some b) => (by simp [Value.ownBlock] at hb; subst hb; rcases hat' with h | h; exact HBy.out _ h; exact .inr (by rw [h]; simp; omega) : b ∈ F ∨ w.heap.size ≤ b)); clear hown' hg' hat')))
       go_wp2
       go_roundw
       case rel => exact ⟨i + 1, nx + 1, ny + 1, _, _, _, _, rfl, rfl, (by go_num), by omega, by omega, by omega, by omega, by omega, hid ⟨_, HR7.out⟩, hid ⟨_, HR6.out⟩, HB4, HB6, HU6⟩
       case measure => simp [intOf]; omega
      ·obtain rfl : i = 3 := by omega
       obtain ⟨xv, hrv⟩ := HRx.out
       obtain ⟨gx, cx', hv, -, -, hgx⟩ := own_form hrv (by omega)
       cases hv
       obtain ⟨⟨v0, e0⟩, g0⟩ := HRx.out.at_ 0 (by omega)
       clear hrv
       have hxp : (0 : Int) < nx := by omega
       have hyp : (0 : Int) < ny := by omega
       have HUe := hid (HU.out.setCell (p := ⟨gx, 0, none⟩) (HBx.out gx rfl) (.string ⟨#[115, 112, 111, 105, 108, 116]⟩))
       go_wp2
       exact bodyPost_end (results_none rfl _ _ _) rfl ⟨rfl, HUe.out⟩
end Go.Proofs.YtjjdlgjofjfgmaaGreatDoor
