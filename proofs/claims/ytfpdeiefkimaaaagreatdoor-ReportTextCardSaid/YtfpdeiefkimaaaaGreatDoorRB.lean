/-
  A class that is read out of a text is read to its end: plain law.
-/
import Derived.Test.YtfpdeiefkimaaaaGreatDoorKN
import Derived.Test.YtfpdeiefkimaaaaGreatDoorR7
import Derived.Test.YtfpdeiefkimaaaaGreatDoorKQ
import Derived.Deep.DeepCutAuto
import Derived.RangeFuncKeeps
import Derived.WalkKit
import Derived.OwnWalkIn
import Derived.TacticsInMore
import Derived.RegionIn
import Derived.LoopNIn
import Derived.LoopIn
import Derived.Test.YtfpdeiefkimaaaaGreatDoorKJ
set_option linter.unusedSimpArgs false
set_option linter.unusedVariables false
namespace Go.Proofs.YtfpdeiefkimaaaaGreatDoor
open Go.RowKit

theorem readL_st : ∀ (ls : List (List UInt8)) (r : RdS) (n : Nat) {r' : RdS}, readL r ls n = .inl r' → r'.st = 8
  | [], _, _, _, h => by cases h
  | [x], r, n, r', h => by
    unfold readL at h
    split at h
    · rename_i hh
      cases h
      exact hh.2
    · cases h
  | x :: y :: t, r, n, r', h => by
    unfold readL at h
    split at h
    · cases h
    · exact readL_st (y :: t) _ _ h
theorem text_st {l : List UInt8} {r : RdS} (h : textO l = .inl r) : r.st = 8 := by
  unfold textO at h
  split at h
  · cases h
  · split at h
    · cases h
    · rename_i r' hr
      split at h
      · cases h
        exact readL_st _ _ _ hr
      · cases h
end Go.Proofs.YtfpdeiefkimaaaaGreatDoor
/-
  report.Load's take: a class's text is read and received; walked. (Layer 25.)
-/
set_option linter.unusedSimpArgs false
set_option linter.unusedVariables false
namespace Go.Proofs.YtfpdeiefkimaaaaGreatDoor
open Go.RowKit

/-- The library's variables that reading a text looks at. -/
structure EnvAt (w : World) : Prop where
  rdy : Rdy w
  errs : ErrsAt w
  hand : w.cell? ⟨0, 0, none⟩ = some (.iface 205 (.agg #[.pointer (some ⟨9, 59, none⟩)]))
theorem EnvAt.upd {w w' : World} (h : EnvAt w) (u : Upd w w' []) : EnvAt w' := ⟨h.rdy.upd u, h.errs.upd u, (u.below.cell (World.block_lt_of_cell? w _ h.hand)).trans h.hand⟩
/-- What of a load lies in cells: the text so far, the world, where the class begins, how many lines there were. -/
structure LdAt (w : World) (b tb wb bb nb : Nat) (text : List UInt8) (bg n : Nat) : Prop where
  ct : Blk w tb 9 #[.string (bs text)]
  cw : Blk w wb 24 #[.pointer (some ⟨b, 0, none⟩)]
  cg : Blk w bb 3 #[.int .i64 bg]
  cn : Blk w nb 3 #[.int .i64 n]
theorem LdAt.upd {w w' : World} {b tb wb bb nb : Nat} {text : List UInt8} {bg n : Nat} (h : LdAt w b tb wb bb nb text bg n) {F : List Nat} (u : Upd w w' F) (h1 : tb ∉ F) (h2 : wb ∉ F) (h3 : bb ∉ F) (h4 : nb ∉ F) : LdAt w' b tb wb bb nb text bg n :=
  ⟨u.blk h.ct h1, u.blk h.cw h2, u.blk h.cg h3, u.blk h.cn h4⟩
/-- What take leaves. -/
def takePost (w : World) (b mb : Nat) (es : List Ent) (S : List Nat) (tb wb bb nb bg n : Nat) (text : List UInt8) (e : Ending) (w' : World) : Prop :=
  (match takeL defD ⟨rsOf es, bg, n, text⟩ with
    | .inl ws => ∃ (at_ : Int) (es' : List Ent) (S' : List Nat), e = .returned (.tuple #[.int .i64 at_, .int .i64 0]) ∧ HW w' b mb es' S' ∧ rsOf es' = ws ∧ (∀ k, k ∈ S' → k ∈ S ∨ w.heap.size ≤ k)
    | .inr x => e = .returned (.tuple #[.int .i64 x.1, .int .i64 x.2])) ∧ LdAt w' b tb wb bb nb [] (n + 1) n ∧ Upd w w' (tb :: bb :: S)
theorem takeL_inr {D : List RdS → RdS → Int} {s : LdS} {x : Nat × Int} (h : textO s.text = .inr x) : takeL D s = .inr (s.bg + max x.1 1 - 1, x.2) := by
  unfold takeL
  rw [h]
theorem takeL_ok {D : List RdS → RdS → Int} {s : LdS} {r : RdS} (h : textO s.text = .inl r) (h0 : D s.ws r = 0) : takeL D s = .inl (s.ws ++ [r]) := by
  unfold takeL
  rw [h]
  exact if_pos h0
theorem takeL_bad {D : List RdS → RdS → Int} {s : LdS} {r : RdS} (h : textO s.text = .inl r) (h0 : D s.ws r ≠ 0) : takeL D s = .inr (s.bg, D s.ws r) := by
  unfold takeL
  rw [h]
  exact if_neg h0
/-- take's last stores. -/
theorem LdAt.fin {w2 : World} {b tb wb bb nb bg n : Nat} {text : List UInt8} (h : LdAt w2 b tb wb bb nb text bg n) (hne : nb ≠ bb) :
    LdAt ((w2.setCell ⟨bb, 0, none⟩ (.int .i64 ((n : Int) + 1))).setCell ⟨tb, 0, none⟩ (.string ⟨#[]⟩)) b tb wb bb nb [] (n + 1) n ∧ Upd w2 ((w2.setCell ⟨bb, 0, none⟩ (.int .i64 ((n : Int) + 1))).setCell ⟨tb, 0, none⟩ (.string ⟨#[]⟩)) [tb, bb] := by
  have n1 : tb ≠ bb := Blk.ne_ h.ct h.cg (by decide)
  have n2 : tb ≠ nb := Blk.ne_ h.ct h.cn (by decide)
  have n3 : wb ≠ bb := Blk.ne_ h.cw h.cg (by decide)
  have n4 : wb ≠ tb := Blk.ne_ h.cw h.ct (by decide)
  refine ⟨⟨(h.ct.far (p := ⟨bb, 0, none⟩) n1 _).set_ 0 _, (h.cw.far (p := ⟨bb, 0, none⟩) n3 _).far (p := ⟨tb, 0, none⟩) n4 _, ?_, (h.cn.far (p := ⟨bb, 0, none⟩) hne _).far (p := ⟨tb, 0, none⟩) (fun e => n2 e.symm) _⟩, ?_⟩
  · have := (h.cg.set_ 0 (.int .i64 ((n : Int) + 1))).far (p := ⟨tb, 0, none⟩) (fun e => n1 e.symm) (.string ⟨#[]⟩)
    rw [show (((n + 1 : Nat)) : Int) = (n : Int) + 1 by omega]
    exact this
  · exact ((Upd.refl w2 _).setCell (p := ⟨bb, 0, none⟩) (.inl (by simp)) _).setCell (p := ⟨tb, 0, none⟩) (.inl (by simp)) _
theorem RdS.wf.mono {r : RdS} {k k' : Nat} (h : r.wf k) (hk : k ≤ k') : r.wf k' := ⟨Nat.le_trans h.ifs hk, Nat.le_trans h.ms hk, fun m hm => Nat.le_trans (h.code m hm) hk, h.st, h.has⟩
set_option maxHeartbeats 16000000 in
set_option maxRecDepth 100000 in
theorem loadTake_any {w : World} {b mb : Nat} {es : List Ent} {S : List Nat} (h : HW w b mb es S) {tb wb bb nb bg n : Nat} {text : List UInt8} (hL : LdAt w b tb wb bb nb text bg n) (hne : nb ≠ bb) (hS : tb ∉ S ∧ wb ∉ S ∧ bb ∉ S ∧ nb ∉ S) (henv : EnvAt w)
    (h1 : text.length ≤ 1000000000000000000) (h2 : bg ≤ 1000000000000000000) (h3 : n ≤ 1000000000000000000) :
    Calls Tryz.prog 25 #[.pointer (some ⟨tb, 0, none⟩), .pointer (some ⟨wb, 0, none⟩), .pointer (some ⟨bb, 0, none⟩), .pointer (some ⟨nb, 0, none⟩)] w (takePost w b mb es S tb wb bb nb bg n text) := by
  have H := hid h
  have HL := hid hL
  have HS := hid hS
  have HE := hid henv
  have hpc := hid (parseCls_any text w (by omega) henv.rdy henv.errs henv.hand)
  have t0 := (hL.ct.cell 0).trans (show _ = some (.string (bs text)) from rfl)
  have htl := hL.ct.lt
  clear h hL hS henv
  go_enter Tryz.func25, Tryz.ntmps25
  go_wp2_with fail
  refine hpc.out.mono ?_
  rintro e w1 ⟨hp, hU1⟩
  clear hpc
  cases ht : textO text with
  | inr x =>
    obtain ⟨xn, xe⟩ := x
    rw [ht] at hp
    simp only at hp
    subst hp
    unfold zeroCls
    have hxe : xe ≠ 0 ∧ xn ≤ text.length + 1 := by
      rcases text_fault ht with ⟨h, -, h5⟩ | ⟨h, h5⟩
      · have := lines_le text
        omega
      · omega
    have hnb : (xe == 0) = false := by rw [beq_eq_false_iff_ne]; exact hxe.1
    have hxn := hxe.2
    have Htk := hid (takeL_inr (D := defD) (s := ⟨rsOf es, bg, n, text⟩) ht)
    have HU2 := hid (hU1.alloc (.cells #[.string ⟨#[]⟩, .string ⟨#[]⟩, .slice none 0 0, .int .i64 0, .int .i64 0, .slice none 0 0] 46))
    clear hxe ht
    go_upto_region 2 with (fail)
    revert HU2
    generalize w1.alloc (.cells #[.string ⟨#[]⟩, .string ⟨#[]⟩, .slice none 0 0, .int .i64 0, .int .i64 0, .slice none 0 0] 46) = w2
    intro HU2
    have HL2 := hid (HL.out.upd HU2.out (by simp) (by simp) (by simp) (by simp))
    have HF := hid (HL2.out.fin hne)
    have x0 := (HL2.out.cg.cell 0).trans (show _ = some (.int .i64 bg) from rfl)
    have x1 := (HL2.out.cn.cell 0).trans (show _ = some (.int .i64 n) from rfl)
    have x2 := (HL2.out.ct.cell 0).trans (show _ = some (.string (bs text)) from rfl)
    have f0 := HL2.out.cg.frozen 0
    have f2 := HL2.out.ct.frozen 0
    have l0 := HL2.out.cg.lt
    have l1 := HL2.out.cn.lt
    have l2 := HL2.out.ct.lt
    clear t0 htl hU1
    have n1 : tb ≠ bb := Blk.ne_ HL2.out.ct HL2.out.cg (by decide)
    have n2 : bb ≠ tb := fun e => n1 e.symm
    have hmx : (max (xn : Int) 1) ≤ 1000000000000000002 := by omega
    go_upto_region 4 with (fail)
    go_wp2
    refine bodyPost_ret (results_tmp2 rfl _ _ _) rfl ?_
    unfold takePost
    rw [Htk.out]
    refine ⟨?_, HF.out.1, (HU2.out.mono (by simp)).trans (HF.out.2.mono (fun k hk => ?_))⟩
    · show Ending.returned (.tuple #[.int .i64 ((bg : Int) + max (xn : Int) 1 - 1), .int .i64 xe]) = .returned (.tuple #[.int .i64 ((bg + max xn 1 - 1 : Nat) : Int), .int .i64 xe])
      rw [show ((bg + max xn 1 - 1 : Nat) : Int) = (bg : Int) + max (xn : Int) 1 - 1 by omega]
    · simp only [List.mem_cons, List.not_mem_nil, or_false] at hk ⊢
      rcases hk with rfl | rfl <;> simp
  | inl r =>
    rw [ht] at hp
    obtain ⟨vi, vm, cs, rfl, hl, hfi, k, hk, hw⟩ := hp
    obtain ⟨A1, k1, rfl⟩ := own_val hl.oi
    obtain ⟨A2, k2, rfl⟩ := own_val hl.om
    have HKp := hid (show r.kept from ⟨hfi, hw.mono (by omega), text_st ht⟩)
    have HLi := hid (hl.upd ((Upd.refl w1 []).alloc (.cells #[.string (bs r.nm), .string (bs r.sup), .slice A1 r.ifs.length k1, .int .i64 r.fl, .int .i64 r.ld, .slice A2 r.ms.length k2] 46)))
    have HU2 := hid (hU1.alloc (.cells #[.string (bs r.nm), .string (bs r.sup), .slice A1 r.ifs.length k1, .int .i64 r.fl, .int .i64 r.ld, .slice A2 r.ms.length k2] 46))
    have HB2 := hid (Blk.new w1 46 #[.string (bs r.nm), .string (bs r.sup), .slice A1 r.ifs.length k1, .int .i64 r.fl, .int .i64 r.ld, .slice A2 r.ms.length k2])
    have Htk := hid (fun h0 => takeL_ok (D := defD) (s := ⟨rsOf es, bg, n, text⟩) ht h0)
    have Htb := hid (fun h0 => takeL_bad (D := defD) (s := ⟨rsOf es, bg, n, text⟩) ht h0)
    clear hl hfi hk hw ht
    go_upto_region 2 with (fail)
    revert HU2 HB2 HLi
    generalize w1.alloc (.cells #[.string (bs r.nm), .string (bs r.sup), .slice A1 r.ifs.length k1, .int .i64 r.fl, .int .i64 r.ld, .slice A2 r.ms.length k2] 46) = w2
    intro HLi HU2 HB2
    have HL2 := hid (HL.out.upd HU2.out (by simp) (by simp) (by simp) (by simp))
    have q0 := (HL2.out.cw.cell 0).trans (show _ = some (.pointer (some ⟨b, 0, none⟩)) from rfl)
    have ql := HL2.out.cw.lt
    have y0 := (HB2.out.cell 0).trans (show _ = some (.string (bs r.nm)) from rfl)
    have y1 := (HB2.out.cell 1).trans (show _ = some (.string (bs r.sup)) from rfl)
    have y2 := (HB2.out.cell 2).trans (show _ = some (.slice A1 r.ifs.length k1) from rfl)
    have y3 := (HB2.out.cell 3).trans (show _ = some (.int .i64 r.fl) from rfl)
    have y4 := (HB2.out.cell 4).trans (show _ = some (.int .i64 r.ld) from rfl)
    have y5 := (HB2.out.cell 5).trans (show _ = some (.slice A2 r.ms.length k2) from rfl)
    have yl := HB2.out.lt
    have hzz := HU2.out.size
    clear t0 htl hU1
    go_wp2_with fail
    refine (define_any (H.out.upd HU2.out) (Lists.mono HLi.out (Nat.zero_le _)) HKp.out (HE.out.upd HU2.out).rdy.max).mono ?_
    rintro e w3 hd
    clear q0 ql y0 y1 y2 y3 y4 y5 yl HB2
    by_cases h0 : defD (rsOf es) r = 0
    · unfold defPost at hd
      rw [if_pos h0] at hd
      obtain ⟨rfl, S', hH3, hU3, hS3⟩ := hd
      have Ht := hid (Htk.out h0)
      have HL3 := hid (HL2.out.upd hU3 HS.out.1 HS.out.2.1 HS.out.2.2.1 HS.out.2.2.2)
      have HU3 := hid (((HU2.out.mono (F' := S) (by simp)).trans hU3))
      have HH3 := hid hH3
      have HS3 := hid hS3
      have HF := hid (HL3.out.fin hne)
      have Hlts := hid (And.intro HL.out.ct.lt HL.out.cg.lt)
      clear hH3 hU3 hS3 h0 Htb Htk
      have x0 := (HL3.out.cg.cell 0).trans (show _ = some (.int .i64 bg) from rfl)
      have x1 := (HL3.out.cn.cell 0).trans (show _ = some (.int .i64 n) from rfl)
      have x2 := (HL3.out.ct.cell 0).trans (show _ = some (.string (bs text)) from rfl)
      have f0 := HL3.out.cg.frozen 0
      have f2 := HL3.out.ct.frozen 0
      have l0 := HL3.out.cg.lt
      have l1 := HL3.out.cn.lt
      have l2 := HL3.out.ct.lt
      have n1 : tb ≠ bb := Blk.ne_ HL3.out.ct HL3.out.cg (by decide)
      have n2 : bb ≠ tb := fun e => n1 e.symm
      go_upto_region 4 with (fail)
      go_wp2
      refine bodyPost_ret (results_tmp2 rfl _ _ _) rfl ?_
      unfold takePost
      rw [Ht.out]
      refine ⟨⟨_, es ++ [defE es r], S', rfl, HH3.out.far HF.out.2 (fun k hk hm => ?_), by simp [rsOf, defE, putOf], fun k hk => ?_⟩, HF.out.1, (HU3.out.mono (fun k hk => List.mem_cons_of_mem _ (List.mem_cons_of_mem _ hk))).trans (HF.out.2.mono (fun k hk => ?_))⟩
      · have hls := Hlts.out
        simp only [List.mem_cons, List.not_mem_nil, or_false] at hk
        rcases HS3.out k hm with h | h
        · rcases hk with rfl | rfl
          · exact HS.out.1 h
          · exact HS.out.2.2.1 h
        · rcases hk with rfl | rfl <;> omega
      · rcases HS3.out k hk with h | h
        · exact .inl h
        · exact .inr (by omega)
      · simp only [List.mem_cons, List.not_mem_nil, or_false] at hk ⊢
        rcases hk with rfl | rfl <;> simp
    · unfold defPost at hd
      rw [if_neg h0] at hd
      obtain ⟨rfl, hU3⟩ := hd
      have Ht := hid (Htb.out h0)
      have HL3 := hid (HL2.out.upd hU3 (by simp) (by simp) (by simp) (by simp))
      have HU3 := hid (HU2.out.trans hU3)
      have HF := hid (HL3.out.fin hne)
      clear hU3 h0 Htb Htk
      have x0 := (HL3.out.cg.cell 0).trans (show _ = some (.int .i64 bg) from rfl)
      have x1 := (HL3.out.cn.cell 0).trans (show _ = some (.int .i64 n) from rfl)
      have x2 := (HL3.out.ct.cell 0).trans (show _ = some (.string (bs text)) from rfl)
      have f0 := HL3.out.cg.frozen 0
      have f2 := HL3.out.ct.frozen 0
      have l0 := HL3.out.cg.lt
      have l1 := HL3.out.cn.lt
      have l2 := HL3.out.ct.lt
      have n1 : tb ≠ bb := Blk.ne_ HL3.out.ct HL3.out.cg (by decide)
      have n2 : bb ≠ tb := fun e => n1 e.symm
      go_upto_region 4 with (fail)
      go_wp2
      refine bodyPost_ret (results_tmp2 rfl _ _ _) rfl ?_
      unfold takePost
      rw [Ht.out]
      refine ⟨?_, HF.out.1, (HU3.out.mono (by simp)).trans (HF.out.2.mono (fun k hk => ?_))⟩
      · show Ending.returned (.tuple #[.int .i64 ((bg : Int) + max 0 1 - 1), .int .i64 (defD (rsOf es) r)]) = .returned (.tuple #[.int .i64 bg, .int .i64 (defD (rsOf es) r)])
        rw [show (bg : Int) + max 0 1 - 1 = bg by omega]
      · simp only [List.mem_cons, List.not_mem_nil, or_false] at hk ⊢
        rcases hk with rfl | rfl <;> simp
end Go.Proofs.YtfpdeiefkimaaaaGreatDoor
/-
  A range over an iterator that keeps its own place in a cell, whose body may leave the function: the law of the statement.
-/
set_option linter.unusedSimpArgs false
set_option linter.unusedVariables false
namespace Go.Proofs.YtfpdeiefkimaaaaGreatDoor
open Go.RowKit

/-- Memory of values: cells, or a map. -/
def Obj.isData : Obj → Bool
  | .cells .. => true
  | .map .. => true
  | _ => false
/-- Whatever is no memory of values lies as it lay. -/
structure KeepsLoops (W W' : World) : Prop where
  size : W.heap.size ≤ W'.heap.size
  same : ∀ (k : Nat) (o : Obj), W.heap[k]? = some o → Obj.isData o = false → W'.heap[k]? = some o
theorem KeepsLoops.refl (W : World) : KeepsLoops W W := ⟨Nat.le_refl _, fun _ _ h _ => h⟩
theorem KeepsLoops.trans {A B C : World} (h : KeepsLoops A B) (k : KeepsLoops B C) : KeepsLoops A C := ⟨Nat.le_trans h.size k.size, fun i o hi ho => k.same i o (h.same i o hi ho) ho⟩
theorem KeepsLoops.alloc (W : World) (o : Obj) : KeepsLoops W (W.alloc o) := ⟨by simp, fun k o' hk _ => (Below.heap_alloc W o k (Array.getElem?_eq_some_iff.1 hk).1).trans hk⟩
/-- How a round's body may end: it goes on, or it leaves the function. -/
def bodyOrRet (R Rx : World → Prop) : Exit → Act → World → Prop
  | .normal, _, W' => R W'
  | .ret, _, W' => Rx W'
  | _, _, _ => False

/-- An iterator that keeps its place in the cell Bs and hands on xs, until a round says that it is enough. -/
def SeqCellE {α : Type} (F : Fence) (n : Nat) (P : Program) (gf : Nat) (lb : Array Value) (enc : α → Value) (Bs : Nat) (It : World → Prop) (v0 : Value) (xs : List α) : Prop :=
  ∀ (l : Nat) (J Jx : List α → World → Prop) (W : World), (∀ s A v, J s A → J s (A.setCell ⟨Bs, 0, none⟩ v)) → (∀ s A, J s A → It A) →
    (∀ pre x W1, pre ++ [x] <+: xs → J pre W1 → YieldAt F (n - 1) P l #[enc x] W1 fun e W' => (e = .returned (.bool true) ∧ J (pre ++ [x]) W' ∧ W'.cell? ⟨Bs, 0, none⟩ = W1.cell? ⟨Bs, 0, none⟩) ∨ (e = .returned (.bool false) ∧ Jx (pre ++ [x]) W')) →
    J [] W → W.cell? ⟨Bs, 0, none⟩ = some v0 → CallsIn F n P gf (#[.func (.yield l) #[] #[]] ++ lb) W fun e W' => (∃ v, e = .returned v) ∧ (J xs W' ∨ ∃ pre, pre <+: xs ∧ Jx pre W')

theorem wpIn_rangeFunc_cellE {α : Type} {F : Fence} {n : Nat} {P : Program} {g : Operand} {ps : Array Tmp} {assign body : Code} {Q : Exit → Act → World → Prop} {a : Act} {w : World}
    (hro : F.round = none) (h1 : 1 ≤ n) {gf : Nat} {lb : Array Value} (hg : a.eval g = .func (.func gf) #[] lb) (hFg : F.fn gf) (eg : ∀ args w, (callFunc gf args).run P w = .ok (.enter gf args) w)
    {enc : α → Value} {Bs : Nat} {It : World → Prop} {v0 : Value} {xs : List α} (hseq : SeqCellE F (n - 1) P gf lb enc Bs It v0 xs) (hps : ps.size = 1) (hBs : Bs < w.heap.size) (hc0 : w.cell? ⟨Bs, 0, none⟩ = some v0)
    (I Ix : List α → World → Prop) (hIa : ∀ s A o, I s A → I s (A.alloc o)) (hIp : ∀ s A k o o', I s A → w.heap.size ≤ k → A.heap[k]? = some o → Obj.isData o = false → I s (A.putObj k o'))
    (hIx : ∀ s A k o o', Ix s A → w.heap.size ≤ k → A.heap[k]? = some o → Obj.isData o = false → Ix s (A.putObj k o'))
    (hIs : ∀ s A v, I s A → I s (A.setCell ⟨Bs, 0, none⟩ v)) (hIt : ∀ s A, I s A → It A) (h0 : I [] w) (a₁ : α → Act)
    (hassign : ∀ (l : Nat) (x : α) (W : World) (K : Act → World → Prop), K (a₁ x) W →
      assign.wpIn (F.inRound l) (n - 1 - 1) P (Exit.then K (fun _ _ _ => False)) { tmps := (ps.zip #[enc x]).foldl (fun t (p, v) => t.setIfInBounds p v) a.tmps, defers := [] } W)
    (hbody : ∀ (l : Nat) (pre : List α) (x : α) (W : World), pre ++ [x] <+: xs → I pre W → Bs < W.heap.size → body.wpIn (F.inRound l) (n - 1 - 1) P (bodyOrRet (fun W' => KeepsLoops W W' ∧ I (pre ++ [x]) W' ∧ W'.cell? ⟨Bs, 0, none⟩ = W.cell? ⟨Bs, 0, none⟩) (fun W' => KeepsLoops W W' ∧ Ix (pre ++ [x]) W')) (a₁ x) W)
    (hdone : ∀ (D : Nat) (W : World), w.heap.size ≤ D → I xs W → W.heap[D]? = some (.deferred (some [])) → Q .normal { a with defers := { target := .collected D, args := #[] } :: a.defers } W)
    (hstop : ∀ (D : Nat) (pre : List α) (W : World), w.heap.size ≤ D → pre <+: xs → Ix pre W → W.heap[D]? = some (.deferred (some [])) → Code.ret.wpIn F n P Q { a with defers := { target := .collected D, args := #[] } :: a.defers } W) :
    (Code.rangeFunc g ps assign body).wpIn F n P Q a w := by
  refine wpIn_rangeFunc ?_
  intro fn hfn
  rw [hro]
  obtain ⟨rec, hrec⟩ : ∃ rec : LoopState → Option Code → Loop, rec = fun st pe => { state := st, pending := pe, fn, tmps := a.tmps, params := ps, assign, body, defers := w.heap.size } := ⟨_, rfl⟩
  obtain ⟨W1, hW1⟩ : ∃ W1, (w.alloc (.deferred (some []))).alloc (.loop (rec .ready none)) = W1 := ⟨_, rfl⟩
  have hL1 : W1.heap[w.heap.size + 1]? = some (.loop (rec .ready none)) := by
    rw [← hW1]; have := World.alloc_heap_new (w.alloc (.deferred (some []))) (.loop (rec .ready none)); rwa [World.size_alloc] at this
  have hK1 : W1.heap[w.heap.size]? = some (.deferred (some [])) := by
    rw [← hW1]; exact (Below.heap_alloc _ _ _ (by simp)).trans (World.alloc_heap_new w _)
  have hI1 : I [] W1 := by rw [← hW1]; exact hIa _ _ _ (hIa _ _ _ h0)
  have hc1 : W1.cell? ⟨Bs, 0, none⟩ = some v0 := by
    rw [← hW1]
    exact (World.cell?_of_block (Below.heap_alloc _ _ Bs (by simp; omega))).trans ((World.cell?_of_block (Below.heap_alloc _ _ Bs hBs)).trans hc0)
  refine ⟨w.heap.size + 1, [{ target := .collected w.heap.size, args := #[] }], W1, { target := .fn (.func gf) lb, args := #[.func (.yield (w.heap.size + 1)) #[] #[]] }, W1, gf,
    #[.func (.yield (w.heap.size + 1)) #[] #[]] ++ lb, W1, ?_, ?_, ?_, ?_, fun _ => h1, ?_⟩
  · rw [← hW1, hrec]; exact run_enterLoop_outer _ _ _ _ _
  · simp only [resolve, hg]
    simp [go_sem]
  · intro f' hf'; simp [Target.leads] at hf'; subst hf'; exact hFg
  · simp [invoke, go_sem, eg]
  · refine (hseq (w.heap.size + 1) (fun pre W => I pre W ∧ W.heap[w.heap.size + 1]? = some (.loop (rec .ready none)) ∧ W.heap[w.heap.size]? = some (.deferred (some [])))
      (fun pre W => Ix pre W ∧ W.heap[w.heap.size + 1]? = some (.loop (rec .done (some .ret))) ∧ W.heap[w.heap.size]? = some (.deferred (some []))) W1 ?_ ?_ ?_ ⟨hI1, hL1, hK1⟩ hc1).mono ?_
    · rintro s A v ⟨hi, hl, hk⟩
      exact ⟨hIs _ _ _ hi, (Below.heap_setCell A ⟨Bs, 0, none⟩ v _ (by show w.heap.size + 1 ≠ Bs; omega)).trans hl, (Below.heap_setCell A ⟨Bs, 0, none⟩ v _ (by show w.heap.size ≠ Bs; omega)).trans hk⟩
    · rintro s A ⟨hi, -, -⟩
      exact hIt _ _ hi
    · rintro pre x W hpx ⟨hi, hl, hk⟩
      have hlt : w.heap.size + 1 < W.heap.size := (Array.getElem?_eq_some_iff.1 hl).1
      have hy := run_yield (P := P) (args := #[enc x]) hl (by rw [hrec]; exact hps.symm)
      rw [hrec] at hy
      refine ⟨fn, _, assign, body, hy, roundIn_of_wpIn hfn (hassign _ x W _ ⟨_, run_beginRound hl (by rw [hrec]), ?_⟩)⟩
      have hl2 : (W.putObj (w.heap.size + 1) (.loop { rec .ready none with state := .busy })).heap[w.heap.size + 1]? = some (.loop { rec .ready none with state := .busy }) := World.putObj_heap_same hlt
      have hk2 : (W.putObj (w.heap.size + 1) (.loop { rec .ready none with state := .busy })).heap[w.heap.size]? = some (.deferred (some [])) := (World.putObj_heap_other (by omega)).trans hk
      have hcB : (W.putObj (w.heap.size + 1) (.loop { rec .ready none with state := .busy })).cell? ⟨Bs, 0, none⟩ = W.cell? ⟨Bs, 0, none⟩ := World.cell?_of_block (World.putObj_heap_other (k := Bs) (by omega))
      refine wpIn_mono (hbody _ pre x _ hpx (hIp _ _ _ _ _ hi (by omega) hl rfl) (by simp; omega)) ?_
      have fin : ∀ (jump : Option Code) (W3 : World), KeepsLoops (W.putObj (w.heap.size + 1) (.loop { rec .ready none with state := .busy })) W3 →
          (Instr.endRound (w.heap.size + 1) jump).run P W3 = .ok (.bool jump.isNone) (W3.putObj (w.heap.size + 1) (.loop (rec (if jump.isNone then .ready else .done) jump))) ∧
          W3.heap[w.heap.size + 1]? = some (.loop { rec .ready none with state := .busy }) ∧
          (W3.putObj (w.heap.size + 1) (.loop (rec (if jump.isNone then .ready else .done) jump))).heap[w.heap.size + 1]? = some (.loop (rec (if jump.isNone then .ready else .done) jump)) ∧
          (W3.putObj (w.heap.size + 1) (.loop (rec (if jump.isNone then .ready else .done) jump))).heap[w.heap.size]? = some (.deferred (some [])) := fun jump W3 hk3 => by
        have hl3 := hk3.same _ _ hl2 rfl
        have := run_endRound (P := P) jump hl3
        rw [hrec] at this ⊢
        exact ⟨this, by rw [hrec] at hl3; exact hl3, World.putObj_heap_same (Array.getElem?_eq_some_iff.1 hl3).1, (World.putObj_heap_other (by omega)).trans (hk3.same _ _ hk2 rfl)⟩
      rintro e a3 W3 hp
      cases e with
      | normal =>
        obtain ⟨hk3, hi3, hc3⟩ := hp
        obtain ⟨hr, hl3, hl4, hk4⟩ := fin none W3 hk3
        exact ⟨_, _, hr, .inl ⟨rfl, ⟨hIp _ _ _ _ _ hi3 (by omega) hl3 rfl, hl4, hk4⟩, (World.cell?_of_block (World.putObj_heap_other (k := Bs) (by omega))).trans (hc3.trans hcB)⟩⟩
      | ret =>
        obtain ⟨hk3, hi3⟩ := hp
        obtain ⟨hr, hl3, hl4, hk4⟩ := fin (some .ret) W3 hk3
        exact ⟨_, _, hr, .inr ⟨rfl, hIx _ _ _ _ _ hi3 (by omega) hl3 rfl, hl4, hk4⟩⟩
      | exit id => exact hp.elim
      | goto t => exact hp.elim
      | panic ch => exact hp.elim
      | outgrown => exact hp.elim
    · rintro e W2 ⟨⟨v, rfl⟩, ⟨hi, hl, hk⟩ | ⟨pre, hpre, hi, hl, hk⟩⟩
      · exact ⟨none, _, by have := run_endLoop (P := P) hl (by rw [hrec]; simp); rw [hrec] at this; exact this, hdone _ _ (Nat.le_refl _) (hIp _ _ _ _ _ hi (by omega) hl rfl) ((World.putObj_heap_other (by omega)).trans hk)⟩
      · exact ⟨some .ret, _, by have := run_endLoop (P := P) hl (by rw [hrec]; simp); rw [hrec] at this; exact this, hstop _ _ _ (Nat.le_refl _) hpre (hIx _ _ _ _ _ hi (by omega) hl rfl) ((World.putObj_heap_other (by omega)).trans hk)⟩
end Go.Proofs.YtfpdeiefkimaaaaGreatDoor
/-
  strings.SplitAfterSeq at a line's end: its iterator, walked.
-/
set_option linter.unusedSimpArgs false
set_option linter.unusedVariables false
namespace Go.Proofs.YtfpdeiefkimaaaaGreatDoor
open Go.RowKit

set_option maxHeartbeats 4000000 in
set_option maxRecDepth 100000 in
theorem splitA_iter (n : Nat) (hn : 1 ≤ n) (Bp Bs Bv : Nat) (l : List UInt8) (hl : l.length ≤ 4000000000000000000) :
    SeqCellE Fence.wide n Tryz.prog 110 #[.pointer (some ⟨Bp, 0, none⟩), .pointer (some ⟨Bs, 0, none⟩), .pointer (some ⟨Bv, 0, none⟩)] (fun x : List UInt8 => .string (bs x)) Bs
      (fun W => W.cell? ⟨Bp, 0, none⟩ = some (.string ⟨#[10]⟩) ∧ W.cell? ⟨Bv, 0, none⟩ = some (.int .i64 1) ∧ W.frozen? ⟨Bs, 0, none⟩ = false) (.string (bs l)) (piecesL 10 l) := by
  intro lp J Jx W hJs hJt hY h0 hc0
  refine callsIn_of_wp Tryz.func110 rfl trivial ?_ rfl
  simp only [Tryz.ntmps110, List.size_toArray, List.length_cons, List.length_nil, Nat.reduceAdd, Nat.reduceSub, Array.replicate_succ, Array.replicate_zero, List.push_toArray, List.append_toArray, List.nil_append, List.cons_append]
  obtain ⟨hp, hv, hf⟩ := hJt _ _ h0
  have h32 : (⟨#[10]⟩ : ByteArray).size = 1 := rfl
  gi_wp2
  gi_loopw [7, 8] (fun _ _ wr => ∃ pre rest, J pre wr ∧ wr.cell? ⟨Bs, 0, none⟩ = some (.string (bs rest)) ∧ piecesL 10 l = pre ++ piecesL 10 rest ∧ rest.length ≤ l.length) (fun _ _ wr => restOf Bs wr)
  case atStart => exact ⟨[], l, h0, hc0, by simp, Nat.le_refl _⟩
  case round =>
    obtain ⟨pre, rest, hJ, hc, hsp, hle⟩ := hrel
    obtain ⟨hp, hv, hf⟩ := hJt _ _ hJ
    by_cases h32m : (10 : UInt8) ∈ rest
    · obtain ⟨a, b, rfl, ha⟩ := List.eq_append_cons_of_mem h32m
      have Hix := fun w => hid (Tryz.strings_Index_one (bs (a ++ 10 :: b)) 10 w)
      simp only [bs_data, indexByte_at 10 a b ha] at Hix
      have hal : a.length + 1 + b.length ≤ 4000000000000000000 := by simp at hle; omega
      have hsz : (bs (a ++ 10 :: b)).size = a.length + 1 + b.length := by rw [bs_size]; simp; omega
      have e1 : (bs (a ++ 10 :: b)).extract 0 (a.length + 1) = bs (a ++ [10]) := by
        rw [bs_extract]
        congr 1
        rw [List.drop_zero, show a ++ 10 :: b = (a ++ [10]) ++ b by simp, List.take_append_of_le_length (by simp), List.take_of_length_le (by simp)]
      have e2 : (bs (a ++ 10 :: b)).extract (a.length + 1) (a.length + 1 + b.length) = bs b := by rw [bs_extract]; simp
      have hsp2 : piecesL 10 l = pre ++ [a ++ [10]] ++ piecesL 10 b := by rw [hsp, pieces_cut 10 a b ha, List.append_assoc]; rfl
      have hw0 : wrap64 ((a.length : Int) + 0) = a.length := by unfold wrap64; omega
      have hw00 : wrap64 (a.length : Int) = a.length := by unfold wrap64; omega
      have hw1 : wrap64 ((a.length : Int) + 1) = a.length + 1 := by unfold wrap64; omega
      obtain ⟨fn, tmps, assign, body, hy, hR⟩ := hY pre (a ++ [10]) wr ⟨_, hsp2.symm⟩ hJ
      have Hrest := hid (restOf_at hc)
      generalize bs (a ++ 10 :: b) = sv at *
      clear hsp
      gi_wp2_with (refine ⟨trivial, ?_⟩; gi_at_call 112; refine (CallsIn.mono (callsIn_wide.2 (Hix _).out) ?_); rintro e w' ⟨rfl, rfl⟩)
      refine hR.mono ?_
      rintro e W3 (⟨rfl, hJ3, hc3⟩ | ⟨rfl, hJx⟩)
      rotate_left
      · clear hc hp hv hf hR hy
        gi_wp2
        exact bodyPost_ret (results_none rfl _ _ _) rfl ⟨⟨_, rfl⟩, .inr ⟨_, ⟨piecesL 10 b, hsp2.symm⟩, hJx⟩⟩
      obtain ⟨hp3, hv3, hf3⟩ := hJt _ _ hJ3
      have hc4 := hc3.trans hc
      have Hc4 := hid hc4
      clear hc3 hc hp hv hf hR hy
      gi_wp2
      go_roundw
      case rel => exact ⟨pre ++ [a ++ [10]], b, hJs _ _ _ hJ3, World.cell?_setCell_same' _ _ _ (by rw [Hc4.out]; rfl), hsp2, by simp at hle; omega⟩
      case measure =>
        rw [Hrest.out, restOf_at (l := b) (World.cell?_setCell_same' _ _ _ (by rw [Hc4.out]; rfl))]
        simp
        omega
    · have Hix := fun w => hid (Tryz.strings_Index_one (bs rest) 10 w)
      simp only [bs_data, indexByte_none 10 rest h32m] at Hix
      have hfin : piecesL 10 l = pre ++ [rest] := by rw [hsp, pieces_none 10 rest h32m]
      obtain ⟨fn, tmps, assign, body, hy, hR⟩ := hY pre rest wr ⟨[], by rw [List.append_nil]; exact hfin.symm⟩ hJ
      clear hsp
      gi_wp2_with (refine ⟨trivial, ?_⟩; gi_at_call 112; refine (CallsIn.mono (callsIn_wide.2 (Hix _).out) ?_); rintro e w' ⟨rfl, rfl⟩)
      refine hR.mono ?_
      rintro e W3 (⟨rfl, hJ3, hc3⟩ | ⟨rfl, hJx⟩)
      · clear hR hy
        gi_wp2
        go_end0
        rw [hfin]
        exact ⟨⟨_, rfl⟩, .inl hJ3⟩
      · clear hR hy
        gi_wp2
        go_end0
        rw [hfin]
        exact ⟨⟨_, rfl⟩, .inr ⟨_, ⟨[], List.append_nil _⟩, hJx⟩⟩
end Go.Proofs.YtfpdeiefkimaaaaGreatDoor
/-
  strings.SplitAfterSeq: its iterator's cells; plain laws of what is loaded piece by piece. (Layer 25.)
-/
set_option linter.unusedSimpArgs false
set_option linter.unusedVariables false
namespace Go.Proofs.YtfpdeiefkimaaaaGreatDoor
open Go.RowKit

set_option maxRecDepth 100000 in
theorem splitAfter_any (l : List UInt8) (w : World) : Calls Tryz.prog 27 #[.string (bs l), .string ⟨#[10]⟩] w fun e w' =>
    e = .returned (.func (.func 110) #[] #[.pointer (some ⟨w.heap.size + 1, 0, none⟩), .pointer (some ⟨w.heap.size, 0, none⟩), .pointer (some ⟨w.heap.size + 2, 0, none⟩)]) ∧ w' = ((w.alloc (.cells #[.string (bs l)] 9)).alloc (.cells #[.string ⟨#[10]⟩] 9)).alloc (.cells #[.int .i64 1] 3) := by
  have h1 : Calls Tryz.prog 58 #[.string (bs l), .string ⟨#[10]⟩, .int .i64 1] w fun e w' =>
      e = .returned (.func (.func 110) #[] #[.pointer (some ⟨w.heap.size + 1, 0, none⟩), .pointer (some ⟨w.heap.size, 0, none⟩), .pointer (some ⟨w.heap.size + 2, 0, none⟩)]) ∧ w' = ((w.alloc (.cells #[.string (bs l)] 9)).alloc (.cells #[.string ⟨#[10]⟩] 9)).alloc (.cells #[.int .i64 1] 3) := by
    go_enter Tryz.func58, Tryz.ntmps58
    go_wp2
    go_ret
    exact ⟨rfl, rfl⟩
  have H1 := hid h1
  clear h1
  go_enter Tryz.func27, Tryz.ntmps27
  go_wp2_with fail
  refine H1.out.mono ?_
  rintro e w' ⟨rfl, rfl⟩
  go_wp2
  go_ret
  exact ⟨rfl, rfl⟩
section
variable (D : List RdS → RdS → Int)
theorem from_snoc : ∀ (ps : List (List UInt8)) (s : LdS) (x : List UInt8), loadFrom D s (ps ++ [x]) = match loadFrom D s ps with
    | .inl s' => pieceL D s' x
    | .inr e => .inr e
  | [], s, x => by
    show (match pieceL D s x with | .inl s' => loadFrom D s' [] | .inr x => .inr x) = pieceL D s x
    cases pieceL D s x <;> rfl
  | p :: t, s, x => by
    show (match pieceL D s p with | .inl s' => loadFrom D s' (t ++ [x]) | .inr x => .inr x) = _
    show _ = match (match pieceL D s p with | .inl s' => loadFrom D s' t | .inr x => .inr x) with
      | .inl s' => pieceL D s' x
      | .inr e => .inr e
    cases pieceL D s p with
    | inl s' => exact from_snoc t s' x
    | inr e => rfl
theorem from_inr {s : LdS} {e : Nat × Int} : ∀ (ps more : List (List UInt8)), loadFrom D s ps = .inr e → loadFrom D s (ps ++ more) = .inr e
  | ps, [], h => by rw [List.append_nil]; exact h
  | ps, x :: t, h => by
    rw [show ps ++ x :: t = (ps ++ [x]) ++ t by simp]
    exact from_inr (ps ++ [x]) t (by rw [from_snoc, h])
/-- How far a load has come. -/
theorem from_far : ∀ (ps : List (List UInt8)) (s s' : LdS), loadFrom D s ps = .inl s' → s'.n = s.n + ps.length ∧ s'.bg ≤ max s.bg (s'.n + 1) ∧ s'.text.length ≤ s.text.length + ps.flatten.length
  | [], s, s', h => by cases h; simp; omega
  | p :: t, s, s', h => by
    unfold loadFrom at h
    cases hp : pieceL D s p with
    | inr x => rw [hp] at h; cases h
    | inl s1 =>
      rw [hp] at h
      obtain ⟨h1, h2, h3⟩ := from_far t s1 s' h
      have key : s1.n = s.n + 1 ∧ s1.bg ≤ max s.bg (s1.n + 1) ∧ s1.text.length ≤ s.text.length + p.length := by
        unfold pieceL at hp
        split at hp
        · split at hp
          · cases hp
            simp
            omega
          · cases hp
        · cases hp
          simp
          omega
      obtain ⟨k1, k2, k3⟩ := key
      exact ⟨by rw [h1, k1, List.length_cons]; omega, by omega, by rw [List.flatten_cons, List.length_append]; omega⟩
end
end Go.Proofs.YtfpdeiefkimaaaaGreatDoor
/-
  report.Load: what holds while a text is loaded piece by piece; plain laws. (Layer 25.)
-/
set_option linter.unusedSimpArgs false
set_option linter.unusedVariables false
namespace Go.Proofs.YtfpdeiefkimaaaaGreatDoor
open Go.RowKit

/-- A block of values (cells, a map). -/
def DataAt (w : World) (k : Nat) : Prop := ∃ o, w.heap[k]? = some o ∧ Obj.isData o = true
theorem Blk.data {w : World} {g : Nat} {t : TypeId} {cs : Array Value} (h : Blk w g t cs) : DataAt w g := ⟨_, h, rfl⟩
theorem own_data {w : World} {base : Nat} {e : TypeId} {size n : Nat} {v : Value} {xs : List Value} (h : w.ownsRow base e size v n xs) : ∀ k, k ∈ Value.ob v → DataAt w k := by
  intro k hk
  rcases h.2 with ⟨rfl, _⟩ | ⟨g, cap, cur, rfl, hb, hg, _⟩
  · simp [Value.ob, Value.ownBlock] at hk
  · have : g = k := by have h9 := mem_ob.1 hk; simpa [Value.ownBlock] using h9
    subst this
    exact ⟨_, hg, rfl⟩
theorem Lists.data {w : World} {n0 : Nat} {r : RdS} {vi vm : Value} {cs : List Value} (h : Lists w n0 r vi vm cs) : ∀ k, k ∈ listF vi vm cs → DataAt w k := by
  intro k hk
  rcases List.mem_append.1 hk with hk | hk
  · exact own_data h.oi k hk
  · rcases List.mem_append.1 hk with hk | hk
    · exact own_data h.om k hk
    · obtain ⟨v, hv, hk⟩ := List.mem_flatMap.1 hk
      obtain ⟨i, hi, rfl⟩ := List.getElem_of_mem hv
      exact own_data (h.oc i hi) k hk
/-- Of a world's blocks those that are of values. -/
def trimS (w : World) (S : List Nat) : List Nat := S.filter fun k => match w.heap[k]? with
  | some o => Obj.isData o
  | none => false
theorem mem_trim {w : World} {S : List Nat} {k : Nat} : k ∈ trimS w S ↔ k ∈ S ∧ DataAt w k := by
  unfold trimS DataAt
  rw [List.mem_filter]
  constructor
  · rintro ⟨h1, h2⟩
    refine ⟨h1, ?_⟩
    cases h : w.heap[k]? with
    | none => rw [h] at h2; cases h2
    | some o => rw [h] at h2; exact ⟨o, rfl, h2⟩
  · rintro ⟨h1, o, h2, h3⟩
    refine ⟨h1, ?_⟩
    rw [h2]
    exact h3
theorem HW.trim {w : World} {b mb : Nat} {es : List Ent} {S : List Nat} (h : HW w b mb es S) : HW w b mb es (trimS w S) := by
  obtain ⟨A, cap, n, D, gs, h⟩ := h
  refine ⟨A, cap, n, D, gs, h.box, h.len, h.mp, h.n, h.nms, fun k h1 h2 => ?_, mem_trim.2 ⟨h.hb, h.box.blk.data⟩, mem_trim.2 ⟨h.hm, ?_⟩, fun k hk => mem_trim.2 ⟨h.ha k hk, own_data h.box.all k hk⟩, fun k hk => h.lt k (mem_trim.1 hk).1, h.good⟩
  · obtain ⟨vi, vm, cs, A', cap', he⟩ := h.ent k h1 h2
    exact ⟨vi, vm, cs, A', cap', he.blk, he.li, he.cl, mem_trim.2 ⟨he.hg, he.blk.data⟩, fun q hq => mem_trim.2 ⟨he.hl q hq, he.li.data q hq⟩, fun q hq => mem_trim.2 ⟨he.hc q hq, own_data he.cl q hq⟩, he.kept⟩
  · obtain ⟨es, clock, hb, rest⟩ := h.mp
    exact ⟨_, hb, rfl⟩
theorem keepsL_upd {W W' : World} {F : List Nat} (u : Upd W W' F) (hF : ∀ k, k ∈ F → DataAt W k) : KeepsLoops W W' :=
  ⟨u.size, fun k o hk ho => (u.block k (Array.getElem?_eq_some_iff.1 hk).1 (fun hm => by
    obtain ⟨o', h1, h2⟩ := hF k hm
    rw [hk] at h1
    cases h1
    rw [ho] at h2
    cases h2)).trans hk⟩
def closV (q bb nb tb : Nat) : Value := .func (.func 25) #[] #[.pointer (some ⟨tb, 0, none⟩), .pointer (some ⟨q, 0, none⟩), .pointer (some ⟨bb, 0, none⟩), .pointer (some ⟨nb, 0, none⟩)]
/-- While a text is loaded. Blocks: q.. the results, c.. (where the class begins, lines, text, take), c + 4.. the pieces' iterator. -/
structure LoadI (w0 : World) (b q c : Nat) (pre : List (List UInt8)) (W : World) : Prop where
  ex : ∃ mb es S s, loadFrom defD ⟨baseW, 1, 0, []⟩ pre = .inl s ∧ rsOf es = s.ws ∧ HW W b mb es S ∧ (∀ k, k ∈ S → DataAt W k ∧ w0.heap.size ≤ k ∧ (k < q ∨ q + 3 ≤ k) ∧ (k < c ∨ c + 7 ≤ k)) ∧ LdAt W b (c + 2) q c (c + 1) s.text s.bg s.n
  cl : Blk W (q + 1) 3 #[.int .i64 0]
  ce : Blk W (q + 2) 28 #[.int .i64 0]
  cf : Blk W (c + 3) 67 #[closV q c (c + 1) (c + 2)]
  cs : ∃ v, Blk W (c + 4) 9 #[v]
  cp : Blk W (c + 5) 9 #[.string ⟨#[10]⟩]
  cv : Blk W (c + 6) 3 #[.int .i64 1]
  upd : Upd w0 W []
  qc : w0.heap.size ≤ q ∧ q + 3 ≤ c
theorem LoadI.keep {w0 : World} {b q c : Nat} {pre : List (List UInt8)} {W W' : World} (h : LoadI w0 b q c pre W) {F : List Nat} (u : Upd W W' F) (hF : ∀ k, k ∈ F → w0.heap.size ≤ k ∧ ¬ DataAt W k) : LoadI w0 b q c pre W' := by
  have hb : ∀ {g : Nat} {t : TypeId} {cs : Array Value}, Blk W g t cs → Blk W' g t cs := fun hg => u.blk hg (fun hm => (hF _ hm).2 hg.data)
  obtain ⟨mb, es, S, s, h1, h2, h3, h4, h5⟩ := h.ex
  obtain ⟨v, hv⟩ := h.cs
  refine ⟨⟨mb, es, S, s, h1, h2, h3.far u (fun k hk hm => (hF k hk).2 (h4 k hm).1), fun k hk => ?_, ⟨hb h5.ct, hb h5.cw, hb h5.cg, hb h5.cn⟩⟩, hb h.cl, hb h.ce, hb h.cf, ⟨v, hb hv⟩, hb h.cp, hb h.cv, h.upd.fresh u (fun k hk => (hF k hk).1), h.qc⟩
  obtain ⟨⟨o, ho, hd⟩, hr⟩ := h4 k hk
  exact ⟨⟨o, (u.block k (Array.getElem?_eq_some_iff.1 ho).1 (fun hm => (hF k hm).2 ⟨o, ho, hd⟩)).trans ho, hd⟩, hr⟩
theorem LoadI.setS {w0 : World} {b q c : Nat} {pre : List (List UInt8)} {W : World} (h : LoadI w0 b q c pre W) (v : Value) : LoadI w0 b q c pre (W.setCell ⟨c + 4, 0, none⟩ v) := by
  have hqc := h.qc
  have u : Upd W (W.setCell ⟨c + 4, 0, none⟩ v) [c + 4] := (Upd.refl W _).setCell (.inl (by simp)) v
  have hb : ∀ {g : Nat} {t : TypeId} {cs : Array Value}, g ≠ c + 4 → Blk W g t cs → Blk (W.setCell ⟨c + 4, 0, none⟩ v) g t cs := fun hne hg => u.blk hg (by simpa using hne)
  obtain ⟨mb, es, S, s, h1, h2, h3, h4, h5⟩ := h.ex
  obtain ⟨v0, hv⟩ := h.cs
  refine ⟨⟨mb, es, S, s, h1, h2, h3.far u (fun k hk hm => ?_), fun k hk => ?_, ⟨hb (by omega) h5.ct, hb (by omega) h5.cw, hb (by omega) h5.cg, hb (by omega) h5.cn⟩⟩, hb (by omega) h.cl, hb (by omega) h.ce, hb (by omega) h.cf, ⟨v, hv.set_ 0 v⟩, hb (by omega) h.cp, hb (by omega) h.cv, h.upd.fresh u (fun k hk => by simp at hk; omega), hqc⟩
  · have := (h4 k hm).2.2.2
    simp at hk
    omega
  · obtain ⟨⟨o, ho, hd⟩, hr⟩ := h4 k hk
    refine ⟨⟨o, (u.block k (Array.getElem?_eq_some_iff.1 ho).1 (fun hm => ?_)).trans ho, hd⟩, hr⟩
    have := hr.2.2
    simp at hm
    omega
end Go.Proofs.YtfpdeiefkimaaaaGreatDoor
