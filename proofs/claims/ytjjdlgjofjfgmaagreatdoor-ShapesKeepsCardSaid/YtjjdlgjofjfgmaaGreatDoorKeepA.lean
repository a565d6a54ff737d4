/-
 What is read out of a text, whether it is taken or not; classes of one content: plain laws.
-/
import Derived.Test.YtjjdlgjofjfgmaaGreatDoorKR
import Derived.Test.YtjjdlgjofjfgmaaGreatDoorKQ
import Derived.Test.YtjjdlgjofjfgmaaGreatDoorSpoilB
import Derived.Test.YtjjdlgjofjfgmaaGreatDoorKE
set_option linter.unusedSimpArgs false
set_option linter.unusedVariables false
namespace Go.Proofs.YtjjdlgjofjfgmaaGreatDoor
open Go.RowKit
theorem like_check {c d : ClassL} (h : rdOf d = rdOf c) : checkB d = checkB c := by rw [← check_of d, h, check_of]
theorem like_print {c d : ClassL} (h : rdOf d = rdOf c) : printL d = printL c := by rw [← print_of d, h, print_of]
theorem find_of (nm ds : List UInt8) (c : ClassL) : findL nm ds ((rdOf c).ms.map methS0) 0 = findL nm ds c.ms 0 := by
 have := find_same nm ds (c.ms.map methSOf) (c.ms.map slOf) 0 (by simp)
 rw [meths_of] at this
 exact this.symm
theorem like_find {c d : ClassL} (nm ds : List UInt8) (h : rdOf d = rdOf c) : findL nm ds d.ms 0 = findL nm ds c.ms 0 := by rw [← find_of nm ds d, h, find_of]
theorem printR5_all (c : ClassL) (w : World) (hf : c.fit w) :
  Calls Tryz.prog 16 #[c.v] w fun e w' => e = .returned (.tuple #[.string (bs (if checkB c then printL c else [])), .int .i64 (errIf (checkB c))]) ∧ Upd w w' [] := by
 cases hb : checkB c with
 | true => exact printR5_ok c w hf hb
 | false => exact printR5_bad c w hf hb
def resR (l : List UInt8) : RdS := match textO l with
 | .inl r => r
 | .inr _ => rd0
def resL (l : List UInt8) : Int := match textO l with
 | .inl _ => 0
 | .inr x => x.1
def resE (l : List UInt8) : Int := match textO l with
 | .inl _ => 0
 | .inr x => x.2
structure GotAt (w : World) (n0 : Nat) (r : RdS) (A1 : Option Addr) (c1 : Nat) (A2 : Option Addr) (c2 : Nat) (cs : List Value) : Prop where
 lists : Lists w n0 r (.slice A1 r.ifs.length c1) (.slice A2 r.ms.length c2) cs
 fine : r.fine
 wf : r.wf 40001
theorem GotAt.fit {w : World} {n0 : Nat} {r : RdS} {A1 A2 : Option Addr} {c1 c2 : Nat} {cs : List Value} (h : GotAt w n0 r A1 c1 A2 c2 cs) : (clsOf r (.slice A1 r.ifs.length c1) (.slice A2 r.ms.length c2) cs).fit w :=
 h.lists.fit h.fine h.wf (by omega)
theorem GotAt.upd {w w' : World} {n0 : Nat} {r : RdS} {A1 A2 : Option Addr} {c1 c2 : Nat} {cs : List Value} (h : GotAt w n0 r A1 c1 A2 c2 cs) (u : Upd w w' []) : GotAt w' n0 r A1 c1 A2 c2 cs := ⟨h.lists.upd u, h.fine, h.wf⟩
theorem GotAt.updF {w w' : World} {n0 n1 : Nat} {r : RdS} {A1 A2 : Option Addr} {c1 c2 : Nat} {cs : List Value} (h : GotAt w n0 r A1 c1 A2 c2 cs) {F : List Nat} (u : Upd w w' F) (hF : ∀ b, b ∈ F → b < n1) (hn : n1 ≤ n0) : GotAt w' n0 r A1 c1 A2 c2 cs := ⟨h.lists.updF u hF hn, h.fine, h.wf⟩
theorem wf_mono {r : RdS} {k k' : Nat} (h : r.wf k) (hk : k ≤ k') : r.wf k' := ⟨Nat.le_trans h.ifs hk, Nat.le_trans h.ms hk, fun m hm => Nat.le_trans (h.code m hm) hk, h.st, h.has⟩
theorem got_of {l : List UInt8} {w w' : World} {e : Ending} (h : textPost l w e w') : ∃ A1 c1 A2 c2 cs, e = .returned (.tuple #[.agg #[.string (bs (resR l).nm), .string (bs (resR l).sup), .slice A1 (resR l).ifs.length c1, .int .i64 (resR l).fl, .int .i64 (resR l).ld, .slice A2 (resR l).ms.length c2], .int .i64 (resL l), .int .i64 (resE l)]) ∧
  GotAt w' w.heap.size (resR l) A1 c1 A2 c2 cs ∧ Upd w w' [] := by
 unfold textPost at h
 obtain ⟨h, u⟩ := h
 unfold resR resL resE
 cases ht : textO l with
 | inl r =>
  rw [ht] at h
  simp only at h ⊢
  obtain ⟨vi, vm, cs, rfl, hL, hfi, k, hk, hw⟩ := h
  obtain ⟨A1, c1, rfl, -, -⟩ := own_slice hL.oi
  obtain ⟨A2, c2, rfl, -, -⟩ := own_slice hL.om
  exact ⟨A1, c1, A2, c2, cs, rfl, ⟨hL, hfi, wf_mono hw hk⟩, u⟩
 | inr x =>
  rw [ht] at h
  simp only at h ⊢
  have hL : Lists w' w.heap.size rd0 (.slice none 0 0) (.slice none 0 0) [] := Lists.start _ _ _ rfl rfl
  exact ⟨none, 0, none, 0, [], h, ⟨hL, fine0, wf_mono wf0 (by omega)⟩, u⟩
theorem GotAt.val {w : World} {n0 : Nat} {r : RdS} {A1 A2 : Option Addr} {c1 c2 : Nat} {cs : List Value} (h : GotAt w n0 r A1 c1 A2 c2 cs) : (clsOf r (.slice A1 r.ifs.length c1) (.slice A2 r.ms.length c2) cs).v = .agg #[.string (bs r.nm), .string (bs r.sup), .slice A1 r.ifs.length c1, .int .i64 r.fl, .int .i64 r.ld, .slice A2 r.ms.length c2] := h.lists.val
theorem got_same {w : World} {n n' : Nat} {r : RdS} {A1 A2 B1 B2 : Option Addr} {c1 c2 d1 d2 : Nat} {cs ds : List Value} (h : GotAt w n r A1 c1 A2 c2 cs) (h' : GotAt w n' r B1 d1 B2 d2 ds) :
  Calls Tryz.prog 26 #[.agg #[.string (bs r.nm), .string (bs r.sup), .slice A1 r.ifs.length c1, .int .i64 r.fl, .int .i64 r.ld, .slice A2 r.ms.length c2], .agg #[.string (bs r.nm), .string (bs r.sup), .slice B1 r.ifs.length d1, .int .i64 r.fl, .int .i64 r.ld, .slice B2 r.ms.length d2]] w fun e w' => e = .returned (.bool true) ∧ Upd w w' [] := by
 have hs := sameCls_any _ _ w h.fit h'.fit (by rw [rd_clsOf _ _ _ _ h.lists.len, rd_clsOf _ _ _ _ h'.lists.len])
 rw [h.val, h'.val] at hs
 exact hs
theorem ownF_ge {w : World} {n0 : Nat} {r : RdS} {vi vm : Value} {cs : List Value} (h : Lists w n0 r vi vm cs) : ∀ b, b ∈ ownF vi vm cs → n0 ≤ b := by
 intro b hb
 rcases List.mem_append.1 hb with hb | hb
 ·exact h.bi b (mem_ob.1 hb)
 ·rcases List.mem_append.1 hb with hb | hb
  ·exact h.bm b (mem_ob.1 hb)
  ·obtain ⟨v, hv, hb⟩ := List.mem_flatMap.1 hb
   obtain ⟨i, hi, rfl⟩ := List.getElem_of_mem hv
   exact h.bc i hi b (mem_ob.1 hb)
theorem got_spoil {w : World} {n : Nat} {r : RdS} {A1 A2 : Option Addr} {c1 c2 : Nat} {cs : List Value} (h : GotAt w n r A1 c1 A2 c2 cs) :
  Calls Tryz.prog 29 #[.agg #[.string (bs r.nm), .string (bs r.sup), .slice A1 r.ifs.length c1, .int .i64 r.fl, .int .i64 r.ld, .slice A2 r.ms.length c2]] w fun e w' => e = .returned (.tuple #[]) ∧ Upd w w' (ownF (.slice A1 r.ifs.length c1) (.slice A2 r.ms.length c2) cs) := by
 have hni := h.wf.ifs
 have hnm := h.wf.ms
 have hnc := codeOf_le h.wf.code
 refine spoil_walk w _ r.nm r.sup r.fl r.ld A1 A2 r.ifs.length r.ms.length c1 c2 cs (fun i => (codeOf r.ms i).length) h.lists.len.symm (by omega) (by omega) (fun i => Nat.le_trans (hnc i) (by omega)) h.lists.apart ⟨_, h.lists.oi⟩ ⟨_, h.lists.om⟩ (fun i hi gm hgm => ?_) (fun i hi => ⟨_, h.lists.oc i hi⟩)
 have hil : i < r.ms.length := by have := h.lists.len; omega
 obtain ⟨g, cap, hv, -, -, -⟩ := own_form h.lists.om (by omega)
 have hom := h.lists.om
 rw [hv] at hom hgm
 cases hgm
 rw [hom.cellAt (i * 6 + 5) (by omega), methRows_get i hil hi 5 (by omega)]
 rfl
end Go.Proofs.YtjjdlgjofjfgmaaGreatDoor
