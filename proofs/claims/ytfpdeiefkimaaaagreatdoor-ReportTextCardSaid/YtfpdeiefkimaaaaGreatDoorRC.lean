/-
  report.Load, walked. (Layer 25.)
-/
import Derived.Test.YtfpdeiefkimaaaaGreatDoorRB
import Derived.RangeFuncBound
import Derived.Laws.EntriesVeiled
import Derived.RangeFuncCalls
import Derived.RangeFuncLeaves
set_option linter.unusedSimpArgs false
set_option linter.unusedVariables false
namespace Go.Proofs.YtfpdeiefkimaaaaGreatDoor
open Go.RowKit
attribute [local go_sem] Oper.semAt_some

/-- What Load leaves. -/
def loadPost (l : List UInt8) (w : World) (e : Ending) (w' : World) : Prop :=
  (match loadL defD baseW l with
    | .inl ws => ∃ b mb es S, e = .returned (.tuple #[.pointer (some ⟨b, 0, none⟩), .int .i64 0, .int .i64 0]) ∧ HW w' b mb es S ∧ rsOf es = ws ∧ ∀ k, k ∈ S → w.heap.size ≤ k
    | .inr x => e = .returned (.tuple #[.pointer none, .int .i64 x.1, .int .i64 x.2])) ∧ Upd w w' []
theorem load_start {w w1 : World} {b mb : Nat} {S : List Nat} (l : List UInt8) (hH : HW w1 b mb baseE S) (hU : Upd w w1 []) (hS : ∀ k, k ∈ S → w.heap.size + 3 ≤ k) (hz : w.heap.size + 3 ≤ w1.heap.size) (h0 : Blk w1 w.heap.size 24 #[.pointer none]) (h1 : Blk w1 (w.heap.size + 1) 3 #[.int .i64 0]) (h2 : Blk w1 (w.heap.size + 2) 28 #[.int .i64 0]) :
    LoadI w b w.heap.size w1.heap.size [] ((((((((w1.setCell ⟨w.heap.size, 0, none⟩ (.pointer (some ⟨b, 0, none⟩))).alloc (.cells #[.int .i64 1] 3)).alloc (.cells #[.int .i64 0] 3)).alloc (.cells #[.string ⟨#[]⟩] 9)).alloc (.cells #[.func (.func 25) #[] #[.pointer (some ⟨w1.heap.size + 1 + 1, 0, none⟩), .pointer (some ⟨w.heap.size, 0, none⟩), .pointer (some ⟨w1.heap.size, 0, none⟩), .pointer (some ⟨w1.heap.size + 1, 0, none⟩)]] 67)).alloc (.cells #[.string (bs l)] 9)).alloc (.cells #[.string ⟨#[10]⟩] 9)).alloc (.cells #[.int .i64 1] 3)) ∧ Blk ((((((((w1.setCell ⟨w.heap.size, 0, none⟩ (.pointer (some ⟨b, 0, none⟩))).alloc (.cells #[.int .i64 1] 3)).alloc (.cells #[.int .i64 0] 3)).alloc (.cells #[.string ⟨#[]⟩] 9)).alloc (.cells #[.func (.func 25) #[] #[.pointer (some ⟨w1.heap.size + 1 + 1, 0, none⟩), .pointer (some ⟨w.heap.size, 0, none⟩), .pointer (some ⟨w1.heap.size, 0, none⟩), .pointer (some ⟨w1.heap.size + 1, 0, none⟩)]] 67)).alloc (.cells #[.string (bs l)] 9)).alloc (.cells #[.string ⟨#[10]⟩] 9)).alloc (.cells #[.int .i64 1] 3)) (w1.heap.size + 4) 9 #[.string (bs l)] := by
  have hw2 : Upd w1 (w1.setCell ⟨w.heap.size, 0, none⟩ (.pointer (some ⟨b, 0, none⟩))) [w.heap.size] := (Upd.refl w1 _).setCell (.inl (by simp)) _
  have b0 : Blk (w1.setCell ⟨w.heap.size, 0, none⟩ (.pointer (some ⟨b, 0, none⟩))) w.heap.size 24 #[.pointer (some ⟨b, 0, none⟩)] := h0.set_ 0 _
  have b1 := hw2.blk h1 (by simp)
  have b2 := hw2.blk h2 (by simp)
  have hH2 := hH.far hw2 (fun k hk hm => by have := hS k hm; simp at hk; omega)
  have hz2 : (w1.setCell ⟨w.heap.size, 0, none⟩ (.pointer (some ⟨b, 0, none⟩))).heap.size = w1.heap.size := by simp [World.setCell]
  have hU2 := hU.fresh hw2 (fun k hk => by simp at hk; omega)
  have hlt := hH.lt
  generalize w1.setCell ⟨w.heap.size, 0, none⟩ (.pointer (some ⟨b, 0, none⟩)) = w2 at *
  rw [← hz2] at hlt hz ⊢
  clear hz2 hU hH hw2 h0 h1 h2
  have u := ((((((((Upd.refl w2 []).alloc (.cells #[.int .i64 1] 3)).alloc (.cells #[.int .i64 0] 3)).alloc (.cells #[.string ⟨#[]⟩] 9)).alloc (.cells #[.func (.func 25) #[] #[.pointer (some ⟨w2.heap.size + 1 + 1, 0, none⟩), .pointer (some ⟨w.heap.size, 0, none⟩), .pointer (some ⟨w2.heap.size, 0, none⟩), .pointer (some ⟨w2.heap.size + 1, 0, none⟩)]] 67)).alloc (.cells #[.string (bs l)] 9)).alloc (.cells #[.string ⟨#[10]⟩] 9)).alloc (.cells #[.int .i64 1] 3))
  have c6 := Blk.new_at (w := ((((((w2.alloc (.cells #[.int .i64 1] 3)).alloc (.cells #[.int .i64 0] 3)).alloc (.cells #[.string ⟨#[]⟩] 9)).alloc (.cells #[.func (.func 25) #[] #[.pointer (some ⟨w2.heap.size + 1 + 1, 0, none⟩), .pointer (some ⟨w.heap.size, 0, none⟩), .pointer (some ⟨w2.heap.size, 0, none⟩), .pointer (some ⟨w2.heap.size + 1, 0, none⟩)]] 67)).alloc (.cells #[.string (bs l)] 9)).alloc (.cells #[.string ⟨#[10]⟩] 9))) (t := 3) (cs := #[.int .i64 1]) (g := w2.heap.size + 6) (by simp)
  have c5 := (Blk.new_at (w := (((((w2.alloc (.cells #[.int .i64 1] 3)).alloc (.cells #[.int .i64 0] 3)).alloc (.cells #[.string ⟨#[]⟩] 9)).alloc (.cells #[.func (.func 25) #[] #[.pointer (some ⟨w2.heap.size + 1 + 1, 0, none⟩), .pointer (some ⟨w.heap.size, 0, none⟩), .pointer (some ⟨w2.heap.size, 0, none⟩), .pointer (some ⟨w2.heap.size + 1, 0, none⟩)]] 67)).alloc (.cells #[.string (bs l)] 9))) (t := 9) (cs := #[.string ⟨#[10]⟩]) (g := w2.heap.size + 5) (by simp)).alloc (.cells #[.int .i64 1] 3)
  have c4 := ((Blk.new_at (w := ((((w2.alloc (.cells #[.int .i64 1] 3)).alloc (.cells #[.int .i64 0] 3)).alloc (.cells #[.string ⟨#[]⟩] 9)).alloc (.cells #[.func (.func 25) #[] #[.pointer (some ⟨w2.heap.size + 1 + 1, 0, none⟩), .pointer (some ⟨w.heap.size, 0, none⟩), .pointer (some ⟨w2.heap.size, 0, none⟩), .pointer (some ⟨w2.heap.size + 1, 0, none⟩)]] 67))) (t := 9) (cs := #[.string (bs l)]) (g := w2.heap.size + 4) (by simp)).alloc (.cells #[.string ⟨#[10]⟩] 9)).alloc (.cells #[.int .i64 1] 3)
  have c3 := (((Blk.new_at (w := (((w2.alloc (.cells #[.int .i64 1] 3)).alloc (.cells #[.int .i64 0] 3)).alloc (.cells #[.string ⟨#[]⟩] 9))) (t := 67) (cs := #[.func (.func 25) #[] #[.pointer (some ⟨w2.heap.size + 1 + 1, 0, none⟩), .pointer (some ⟨w.heap.size, 0, none⟩), .pointer (some ⟨w2.heap.size, 0, none⟩), .pointer (some ⟨w2.heap.size + 1, 0, none⟩)]]) (g := w2.heap.size + 3) (by simp)).alloc (.cells #[.string (bs l)] 9)).alloc (.cells #[.string ⟨#[10]⟩] 9)).alloc (.cells #[.int .i64 1] 3)
  have c2 := ((((Blk.new_at (w := ((w2.alloc (.cells #[.int .i64 1] 3)).alloc (.cells #[.int .i64 0] 3))) (t := 9) (cs := #[.string ⟨#[]⟩]) (g := w2.heap.size + 2) (by simp)).alloc (.cells #[.func (.func 25) #[] #[.pointer (some ⟨w2.heap.size + 1 + 1, 0, none⟩), .pointer (some ⟨w.heap.size, 0, none⟩), .pointer (some ⟨w2.heap.size, 0, none⟩), .pointer (some ⟨w2.heap.size + 1, 0, none⟩)]] 67)).alloc (.cells #[.string (bs l)] 9)).alloc (.cells #[.string ⟨#[10]⟩] 9)).alloc (.cells #[.int .i64 1] 3)
  have c1 := (((((Blk.new_at (w := (w2.alloc (.cells #[.int .i64 1] 3))) (t := 3) (cs := #[.int .i64 0]) (g := w2.heap.size + 1) (by simp)).alloc (.cells #[.string ⟨#[]⟩] 9)).alloc (.cells #[.func (.func 25) #[] #[.pointer (some ⟨w2.heap.size + 1 + 1, 0, none⟩), .pointer (some ⟨w.heap.size, 0, none⟩), .pointer (some ⟨w2.heap.size, 0, none⟩), .pointer (some ⟨w2.heap.size + 1, 0, none⟩)]] 67)).alloc (.cells #[.string (bs l)] 9)).alloc (.cells #[.string ⟨#[10]⟩] 9)).alloc (.cells #[.int .i64 1] 3)
  have c0 := ((((((Blk.new w2 3 #[.int .i64 1]).alloc (.cells #[.int .i64 0] 3)).alloc (.cells #[.string ⟨#[]⟩] 9)).alloc (.cells #[.func (.func 25) #[] #[.pointer (some ⟨w2.heap.size + 1 + 1, 0, none⟩), .pointer (some ⟨w.heap.size, 0, none⟩), .pointer (some ⟨w2.heap.size, 0, none⟩), .pointer (some ⟨w2.heap.size + 1, 0, none⟩)]] 67)).alloc (.cells #[.string (bs l)] 9)).alloc (.cells #[.string ⟨#[10]⟩] 9)).alloc (.cells #[.int .i64 1] 3)
  refine ⟨⟨⟨mb, baseE, trimS _ S, ⟨baseW, 1, 0, []⟩, rfl, rfl, (hH2.upd u).trim, fun k hk => ?_, ⟨c2, u.blk b0 (by simp), c0, c1⟩⟩, u.blk b1 (by simp), u.blk b2 (by simp), c3, ⟨_, c4⟩, c5, c6, hU2.fresh u (by simp), ⟨Nat.le_refl _, hz⟩⟩, c4⟩
  obtain ⟨k1, k2⟩ := mem_trim.1 hk
  have := hS k k1
  have := hlt k k1
  exact ⟨k2, by omega, by omega, by omega⟩
/-- A text that was not taken: the results lie as Load returns them. -/
structure LoadX (w0 : World) (q : Nat) (pre : List (List UInt8)) (W : World) : Prop where
  ex : ∃ x : Nat × Int, loadFrom defD ⟨baseW, 1, 0, []⟩ pre = .inr x ∧ Blk W q 24 #[.pointer none] ∧ Blk W (q + 1) 3 #[.int .i64 x.1] ∧ Blk W (q + 2) 28 #[.int .i64 x.2]
  upd : Upd w0 W []
theorem LoadX.keep {w0 : World} {q : Nat} {pre : List (List UInt8)} {W W' : World} (h : LoadX w0 q pre W) {F : List Nat} (u : Upd W W' F) (hF : ∀ k, k ∈ F → w0.heap.size ≤ k ∧ ¬ DataAt W k) : LoadX w0 q pre W' := by
  have hb : ∀ {g : Nat} {t : TypeId} {cs : Array Value}, Blk W g t cs → Blk W' g t cs := fun hg => u.blk hg (fun hm => (hF _ hm).2 hg.data)
  obtain ⟨x, h1, h2, h3, h4⟩ := h.ex
  exact ⟨⟨x, h1, hb h2, hb h3, hb h4⟩, h.upd.fresh u (fun k hk => (hF k hk).1)⟩
theorem no_data {A : World} {k : Nat} {o : Obj} (ho : A.heap[k]? = some o) (hc : Obj.isData o = false) : ¬ DataAt A k := by
  rintro ⟨o', h1, h2⟩
  rw [ho] at h1
  cases h1
  rw [hc] at h2
  cases h2
/-- What holds between two pieces, the load's state named. -/
structure LoadM (w0 : World) (b q c mb : Nat) (es : List Ent) (S : List Nat) (s : LdS) (W : World) : Prop where
  rs : rsOf es = s.ws
  hw : HW W b mb es S
  dat : ∀ k, k ∈ S → DataAt W k ∧ w0.heap.size ≤ k ∧ (k < q ∨ q + 3 ≤ k) ∧ (k < c ∨ c + 7 ≤ k)
  ld : LdAt W b (c + 2) q c (c + 1) s.text s.bg s.n
  cl : Blk W (q + 1) 3 #[.int .i64 0]
  ce : Blk W (q + 2) 28 #[.int .i64 0]
  cf : Blk W (c + 3) 67 #[closV q c (c + 1) (c + 2)]
  cs : ∃ v, Blk W (c + 4) 9 #[v]
  cp : Blk W (c + 5) 9 #[.string ⟨#[10]⟩]
  cv : Blk W (c + 6) 3 #[.int .i64 1]
  upd : Upd w0 W []
  qc : w0.heap.size ≤ q ∧ q + 3 ≤ c
theorem LoadI.open_ {w0 : World} {b q c : Nat} {pre : List (List UInt8)} {W : World} (h : LoadI w0 b q c pre W) : ∃ mb es S s, loadFrom defD ⟨baseW, 1, 0, []⟩ pre = .inl s ∧ LoadM w0 b q c mb es S s W := by
  obtain ⟨mb, es, S, s, h1, h2, h3, h4, h5⟩ := h.ex
  exact ⟨mb, es, S, s, h1, ⟨h2, h3, h4, h5, h.cl, h.ce, h.cf, h.cs, h.cp, h.cv, h.upd, h.qc⟩⟩
theorem LoadM.close {w0 : World} {b q c mb : Nat} {es : List Ent} {S : List Nat} {s : LdS} {pre : List (List UInt8)} {W : World} (h : LoadM w0 b q c mb es S s W) (hp : loadFrom defD ⟨baseW, 1, 0, []⟩ pre = .inl s) : LoadI w0 b q c pre W :=
  ⟨⟨mb, es, S, s, hp, h.rs, h.hw, h.dat, h.ld⟩, h.cl, h.ce, h.cf, h.cs, h.cp, h.cv, h.upd, h.qc⟩
/-- A piece more. -/
theorem LoadM.line {w0 : World} {b q c mb : Nat} {es : List Ent} {S : List Nat} {s : LdS} {W : World} (h : LoadM w0 b q c mb es S s W) (x : List UInt8) :
    LoadM w0 b q c mb es S ⟨s.ws, s.bg, s.n + 1, s.text ++ x⟩ ((W.setCell ⟨c + 1, 0, none⟩ (.int .i64 ((s.n : Int) + 1))).setCell ⟨c + 2, 0, none⟩ (.string (bs (s.text ++ x)))) ∧ KeepsLoops W ((W.setCell ⟨c + 1, 0, none⟩ (.int .i64 ((s.n : Int) + 1))).setCell ⟨c + 2, 0, none⟩ (.string (bs (s.text ++ x)))) ∧
      ((W.setCell ⟨c + 1, 0, none⟩ (.int .i64 ((s.n : Int) + 1))).setCell ⟨c + 2, 0, none⟩ (.string (bs (s.text ++ x)))).cell? ⟨c + 4, 0, none⟩ = W.cell? ⟨c + 4, 0, none⟩ := by
  have hqc := h.qc
  have u : Upd W ((W.setCell ⟨c + 1, 0, none⟩ (.int .i64 ((s.n : Int) + 1))).setCell ⟨c + 2, 0, none⟩ (.string (bs (s.text ++ x)))) [c + 1, c + 2] := ((Upd.refl W _).setCell (.inl (by simp)) _).setCell (.inl (by simp)) _
  have e1 : Blk ((W.setCell ⟨c + 1, 0, none⟩ (.int .i64 ((s.n : Int) + 1))).setCell ⟨c + 2, 0, none⟩ (.string (bs (s.text ++ x)))) (c + 1) 3 #[.int .i64 ((s.n : Int) + 1)] := (h.ld.cn.set_ 0 _).far (p := ⟨c + 2, 0, none⟩) (by show c + 1 ≠ c + 2; omega) _
  have e2 : Blk ((W.setCell ⟨c + 1, 0, none⟩ (.int .i64 ((s.n : Int) + 1))).setCell ⟨c + 2, 0, none⟩ (.string (bs (s.text ++ x)))) (c + 2) 9 #[.string (bs (s.text ++ x))] := (h.ld.ct.far (p := ⟨c + 1, 0, none⟩) (by show c + 2 ≠ c + 1; omega) _).set_ 0 _
  have hd1 := h.ld.cn.data
  have hd2 := h.ld.ct.data
  obtain ⟨v, hv⟩ := h.cs
  generalize (W.setCell ⟨c + 1, 0, none⟩ (.int .i64 ((s.n : Int) + 1))).setCell ⟨c + 2, 0, none⟩ (.string (bs (s.text ++ x))) = W2 at *
  have hb : ∀ {g : Nat} {t : TypeId} {cs : Array Value}, g ≠ c + 1 → g ≠ c + 2 → Blk W g t cs → Blk W2 g t cs := fun n1 n2 hg => u.blk hg (by simp [n1, n2])
  have hS : ∀ k, k ∈ [c + 1, c + 2] → k ∉ S := fun k hk hm => by
    have := (h.dat k hm).2.2.2
    simp at hk
    omega
  refine ⟨⟨h.rs, h.hw.far u hS, fun k hk => ?_, ⟨e2, hb (by omega) (by omega) h.ld.cw, hb (by omega) (by omega) h.ld.cg, e1⟩, hb (by omega) (by omega) h.cl, hb (by omega) (by omega) h.ce, hb (by omega) (by omega) h.cf, ⟨v, hb (by omega) (by omega) hv⟩, hb (by omega) (by omega) h.cp, hb (by omega) (by omega) h.cv, h.upd.fresh u (fun k hk => by simp at hk; omega), hqc⟩, keepsL_upd u (fun k hk => ?_), ?_⟩
  · obtain ⟨⟨o, ho, hd⟩, hr⟩ := h.dat k hk
    exact ⟨⟨o, (u.block k (Array.getElem?_eq_some_iff.1 ho).1 (fun hm => hS k hm hk)).trans ho, hd⟩, hr⟩
  · simp at hk
    rcases hk with rfl | rfl
    · exact hd1
    · exact hd2
  · exact World.cell?_of_block (u.block (c + 4) hv.lt (by simp))
theorem LoadM.no {w0 : World} {b q c mb : Nat} {es : List Ent} {S : List Nat} {s : LdS} {W : World} (h : LoadM w0 b q c mb es S s W) : c + 2 ∉ S ∧ q ∉ S ∧ c ∉ S ∧ c + 1 ∉ S := by
  refine ⟨fun hm => ?_, fun hm => ?_, fun hm => ?_, fun hm => ?_⟩
  all_goals
    have := h.dat _ hm
    have := h.qc
    omega
/-- take has been called. -/
theorem LoadM.took {w0 : World} {b q c mb : Nat} {es : List Ent} {S : List Nat} {s : LdS} {W W' : World} (h : LoadM w0 b q c mb es S s W) {e : Ending} (hp : takePost W b mb es S (c + 2) q c (c + 1) s.bg s.n s.text e W') :
    KeepsLoops W W' ∧ W'.cell? ⟨c + 4, 0, none⟩ = W.cell? ⟨c + 4, 0, none⟩ ∧ Upd w0 W' [] ∧ Blk W' q 24 #[.pointer (some ⟨b, 0, none⟩)] ∧ Blk W' (q + 1) 3 #[.int .i64 0] ∧ Blk W' (q + 2) 28 #[.int .i64 0] ∧
      (match takeL defD s with
        | .inl ws => ∃ (at_ : Int) (es' : List Ent) (S' : List Nat), e = .returned (.tuple #[.int .i64 at_, .int .i64 0]) ∧ LoadM w0 b q c mb es' S' ⟨ws, s.n + 1, s.n, []⟩ W'
        | .inr x => e = .returned (.tuple #[.int .i64 x.1, .int .i64 x.2])) := by
  obtain ⟨h1, h2, h3⟩ := hp
  have hqc := h.qc
  have hrs := h.rs
  have hd1 := h.ld.ct.data
  have hd2 := h.ld.cg.data
  obtain ⟨v, hv⟩ := h.cs
  have hS : ∀ k, k ∈ (c + 2) :: c :: S → DataAt W k ∧ w0.heap.size ≤ k := fun k hk => by
    rcases List.mem_cons.1 hk with rfl | hk
    · exact ⟨hd1, by omega⟩
    · rcases List.mem_cons.1 hk with rfl | hk
      · exact ⟨hd2, by omega⟩
      · exact ⟨(h.dat k hk).1, (h.dat k hk).2.1⟩
  have hn : ∀ k, k ∉ S → k ≠ c + 2 → k ≠ c → k ∉ (c + 2) :: c :: S := fun k k1 k2 k3 hm => by
    rcases List.mem_cons.1 hm with rfl | hm
    · exact k2 rfl
    · rcases List.mem_cons.1 hm with rfl | hm
      · exact k3 rfl
      · exact k1 hm
  have hnS : ∀ k, (q ≤ k ∧ k < q + 3) ∨ (c ≤ k ∧ k < c + 7) → k ∉ S := fun k hk hm => by
    have := (h.dat k hm).2.2
    omega
  have hb : ∀ {g : Nat} {t : TypeId} {cs : Array Value}, ((q ≤ g ∧ g < q + 3) ∨ (c ≤ g ∧ g < c + 7)) → g ≠ c + 2 → g ≠ c → Blk W g t cs → Blk W' g t cs := fun hk n1 n2 hg => h3.blk hg (hn _ (hnS _ hk) n1 n2)
  have hU := h.upd.fresh h3 (fun k hk => (hS k hk).2)
  refine ⟨keepsL_upd h3 (fun k hk => (hS k hk).1), World.cell?_of_block (h3.block (c + 4) hv.lt (hn _ (hnS _ (by omega)) (by omega) (by omega))), hU, h2.cw, hb (by omega) (by omega) (by omega) h.cl, hb (by omega) (by omega) (by omega) h.ce, ?_⟩
  rw [hrs] at h1
  obtain ⟨sws, sbg, sn, stx⟩ := s
  simp only at h1 h2 ⊢
  cases ht : takeL defD ⟨sws, sbg, sn, stx⟩ with
  | inr x =>
    rw [ht] at h1
    exact h1
  | inl ws =>
    rw [ht] at h1
    obtain ⟨at_, es', S', he, hH, hr, hS'⟩ := h1
    refine ⟨at_, es', trimS W' S', he, ⟨hr, hH.trim, fun k hk => ?_, h2, hb (by omega) (by omega) (by omega) h.cl, hb (by omega) (by omega) (by omega) h.ce, hb (by omega) (by omega) (by omega) h.cf, ⟨v, hb (by omega) (by omega) (by omega) hv⟩, hb (by omega) (by omega) (by omega) h.cp, hb (by omega) (by omega) (by omega) h.cv, hU, hqc⟩⟩
    obtain ⟨k1, k2⟩ := mem_trim.1 hk
    refine ⟨k2, ?_⟩
    rcases hS' k k1 with h5 | h5
    · exact (h.dat k h5).2
    · have := h.cv.lt
      have := h.upd.size
      omega
theorem pieces_len (c : UInt8) : ∀ l : List UInt8, (piecesL c l).length ≤ l.length + 1
  | [] => by simp [piecesL]
  | x :: t => by
    have ih := pieces_len c t
    unfold piecesL
    split
    · simp only [List.length_cons]; omega
    · split
      · simp
      · rename_i h
        rw [h] at ih
        simp only [List.length_cons] at ih ⊢
        omega
theorem LoadM.takeOk {w0 : World} {b q c mb : Nat} {es : List Ent} {S : List Nat} {s : LdS} {W : World} (h : LoadM w0 b q c mb es S s W) (henv : EnvAt w0) (h1 : s.text.length ≤ 1000000000000000000) (h2 : s.bg ≤ 1000000000000000000) (h3 : s.n ≤ 1000000000000000000) {ws : List RdS} (ht : takeL defD s = .inl ws) :
    Calls Tryz.prog 25 #[.pointer (some ⟨c + 2, 0, none⟩), .pointer (some ⟨q, 0, none⟩), .pointer (some ⟨c, 0, none⟩), .pointer (some ⟨c + 1, 0, none⟩)] W fun e W' => ∃ (at_ : Int), e = .returned (.tuple #[.int .i64 at_, .int .i64 0]) ∧ (∃ es' S', LoadM w0 b q c mb es' S' ⟨ws, s.n + 1, s.n, []⟩ W') ∧ KeepsLoops W W' ∧ W'.cell? ⟨c + 4, 0, none⟩ = W.cell? ⟨c + 4, 0, none⟩ := by
  refine (loadTake_any h.hw h.ld (by omega) h.no (henv.upd h.upd) h1 h2 h3).mono fun e W' hp => ?_
  obtain ⟨k1, k2, -, -, -, -, k3⟩ := h.took hp
  rw [ht] at k3
  obtain ⟨at_, es', S', he, hM⟩ := k3
  exact ⟨at_, he, ⟨es', S', hM⟩, k1, k2⟩
theorem LoadM.takeBad {w0 : World} {b q c mb : Nat} {es : List Ent} {S : List Nat} {s : LdS} {W : World} (h : LoadM w0 b q c mb es S s W) (henv : EnvAt w0) (h1 : s.text.length ≤ 1000000000000000000) (h2 : s.bg ≤ 1000000000000000000) (h3 : s.n ≤ 1000000000000000000) {x : Nat × Int} (ht : takeL defD s = .inr x) :
    Calls Tryz.prog 25 #[.pointer (some ⟨c + 2, 0, none⟩), .pointer (some ⟨q, 0, none⟩), .pointer (some ⟨c, 0, none⟩), .pointer (some ⟨c + 1, 0, none⟩)] W fun e W' => e = .returned (.tuple #[.int .i64 x.1, .int .i64 x.2]) ∧ KeepsLoops W W' ∧ Upd w0 W' [] ∧ Blk W' q 24 #[.pointer (some ⟨b, 0, none⟩)] ∧ Blk W' (q + 1) 3 #[.int .i64 0] ∧ Blk W' (q + 2) 28 #[.int .i64 0] := by
  refine (loadTake_any h.hw h.ld (by omega) h.no (henv.upd h.upd) h1 h2 h3).mono fun e W' hp => ?_
  obtain ⟨k1, -, k2, k3, k4, k5, k6⟩ := h.took hp
  rw [ht] at k6
  exact ⟨k6, k1, k2, k3, k4, k5⟩
/-- The results are written. -/
theorem res_set {w0 W3 : World} {q : Nat} {a0 a1 a2 : Value} (u : Upd w0 W3 []) (hq : w0.heap.size ≤ q) (h0 : Blk W3 q 24 #[a0]) (h1 : Blk W3 (q + 1) 3 #[a1]) (h2 : Blk W3 (q + 2) 28 #[a2]) (v0 v1 v2 : Value) :
    Upd w0 (((W3.setCell ⟨q, 0, none⟩ v0).setCell ⟨q + 1, 0, none⟩ v1).setCell ⟨q + 2, 0, none⟩ v2) [] ∧ KeepsLoops W3 (((W3.setCell ⟨q, 0, none⟩ v0).setCell ⟨q + 1, 0, none⟩ v1).setCell ⟨q + 2, 0, none⟩ v2) ∧
      Blk (((W3.setCell ⟨q, 0, none⟩ v0).setCell ⟨q + 1, 0, none⟩ v1).setCell ⟨q + 2, 0, none⟩ v2) q 24 #[v0] ∧ Blk (((W3.setCell ⟨q, 0, none⟩ v0).setCell ⟨q + 1, 0, none⟩ v1).setCell ⟨q + 2, 0, none⟩ v2) (q + 1) 3 #[v1] ∧ Blk (((W3.setCell ⟨q, 0, none⟩ v0).setCell ⟨q + 1, 0, none⟩ v1).setCell ⟨q + 2, 0, none⟩ v2) (q + 2) 28 #[v2] ∧
      Upd W3 (((W3.setCell ⟨q, 0, none⟩ v0).setCell ⟨q + 1, 0, none⟩ v1).setCell ⟨q + 2, 0, none⟩ v2) [q, q + 1, q + 2] := by
  have uu : Upd W3 (((W3.setCell ⟨q, 0, none⟩ v0).setCell ⟨q + 1, 0, none⟩ v1).setCell ⟨q + 2, 0, none⟩ v2) [q, q + 1, q + 2] := (((Upd.refl W3 _).setCell (p := ⟨q, 0, none⟩) (.inl (by simp)) v0).setCell (p := ⟨q + 1, 0, none⟩) (.inl (by simp)) v1).setCell (p := ⟨q + 2, 0, none⟩) (.inl (by simp)) v2
  refine ⟨u.fresh uu (fun k hk => by simp at hk; omega), keepsL_upd uu (fun k hk => ?_), ?_, ?_, ?_, uu⟩
  · simp at hk
    rcases hk with rfl | rfl | rfl
    · exact h0.data
    · exact h1.data
    · exact h2.data
  · exact ((h0.set_ 0 v0).far (p := ⟨q + 1, 0, none⟩) (by show q ≠ q + 1; omega) v1).far (p := ⟨q + 2, 0, none⟩) (by show q ≠ q + 2; omega) v2
  · exact (((h1.far (p := ⟨q, 0, none⟩) (by show q + 1 ≠ q; omega) v0).set_ 0 v1).far (p := ⟨q + 2, 0, none⟩) (by show q + 1 ≠ q + 2; omega) v2)
  · exact ((h2.far (p := ⟨q, 0, none⟩) (by show q + 2 ≠ q; omega) v0).far (p := ⟨q + 1, 0, none⟩) (by show q + 2 ≠ q + 1; omega) v1).set_ 0 v2
/-- The results behind the range's last word. -/
theorem res_put {w0 Wf : World} {q D : Nat} {a0 a1 a2 : Value} (u : Upd w0 Wf []) (hD : w0.heap.size ≤ D) (hK : Wf.heap[D]? = some (.deferred (some []))) (h0 : Blk Wf q 24 #[a0]) (h1 : Blk Wf (q + 1) 3 #[a1]) (h2 : Blk Wf (q + 2) 28 #[a2]) (o : Obj) :
    Upd w0 (Wf.putObj D o) [] ∧ Upd Wf (Wf.putObj D o) [D] ∧ (Wf.putObj D o).cell? ⟨q, 0, none⟩ = some a0 ∧ (Wf.putObj D o).cell? ⟨q + 1, 0, none⟩ = some a1 ∧ (Wf.putObj D o).cell? ⟨q + 2, 0, none⟩ = some a2 := by
  have uu : Upd Wf (Wf.putObj D o) [D] := (Upd.refl Wf [D]).grown (grownBy_putObj' Wf D o) (fun j e => by cases e; left; simp)
  have hn : ∀ {g : Nat} {t : TypeId} {cs : Array Value}, Blk Wf g t cs → g ∉ [D] := fun hg hm => by
    rw [List.mem_singleton.1 hm] at hg
    exact no_data hK rfl hg.data
  exact ⟨u.fresh uu (fun k hk => by rw [List.mem_singleton.1 hk]; exact hD), uu, ((uu.blk h0 (hn h0)).cell 0).trans rfl, ((uu.blk h1 (hn h1)).cell 0).trans rfl, ((uu.blk h2 (hn h2)).cell 0).trans rfl⟩
set_option maxHeartbeats 16000000 in
set_option maxRecDepth 100000 in
theorem load_any (l : List UInt8) (w : World) (hl : l.length ≤ 100000000000000000) (henv : EnvAt w) : Calls Tryz.prog 10 #[.string (bs l)] w (loadPost l w) := by
  have Hss := fun w => hid (splitAfter_any l w)
  have Hnew := fun w => hid (new_any w)
  have HE := hid henv
  clear henv
  have HQ := hid (fun W (u : Upd (((w.alloc (.cells #[.pointer none] 24)).alloc (.cells #[.int .i64 0] 3)).alloc (.cells #[.int .i64 0] 28)) W []) => show Blk W w.heap.size 24 #[.pointer none] ∧ Blk W (w.heap.size + 1) 3 #[.int .i64 0] ∧ Blk W (w.heap.size + 2) 28 #[.int .i64 0] from
    ⟨u.blk (((Blk.new w _ _).alloc _).alloc _) (by simp), u.blk ((Blk.new_at (by simp)).alloc _) (by simp), u.blk (Blk.new_at (by simp)) (by simp)⟩)
  have HU0 := hid ((((Upd.refl w []).alloc (.cells #[.pointer none] 24)).alloc (.cells #[.int .i64 0] 3)).alloc (.cells #[.int .i64 0] 28))
  have hz0 : (((w.alloc (.cells #[.pointer none] 24)).alloc (.cells #[.int .i64 0] 3)).alloc (.cells #[.int .i64 0] 28)).heap.size = w.heap.size + 3 := by simp
  refine (callsIn_wide (n := 20)).1 ?_
  refine callsIn_of_wp_marks Tryz.func10 rfl trivial ?_ rfl
  simp only [Tryz.ntmps10, List.size_toArray, List.length_cons, List.length_nil, Nat.reduceAdd, Nat.reduceSub, Array.replicate_succ, Array.replicate_zero, List.push_toArray, List.append_toArray, List.nil_append, List.cons_append]
  gi_wp2_with (first
    | (refine ⟨trivial, ?_⟩; gi_at_call 14; refine (CallsIn.mono (callsIn_wide.2 (Hnew _).out) ?_); rintro e w1 ⟨b, mb, S, rfl, hH1, hU1, hS1⟩; obtain ⟨hq0, hq1, hq2⟩ := HQ.out w1 hU1; have x0 := (hq0.cell 0).trans (show _ = some (.pointer none) from rfl); have f0 := hq0.frozen 0; have l0 := hq0.lt; have HH1 := hid hH1; have HU1 := hid hU1; have HS1 := hid hS1; have Hq1 := hid hq1; have Hq2 := hid hq2; have Hq0 := hid hq0; clear hH1 hU1 hS1 hq0 hq1 hq2)
    | (refine ⟨trivial, ?_⟩; gi_at_call 27; refine (CallsIn.mono (callsIn_wide.2 (Hss _).out) ?_); rintro e w' ⟨rfl, rfl⟩))
  have hst := load_start (b := b) l HH1.out (HU0.out.trans HU1.out) (fun k hk => by have := HS1.out k hk; omega) (by have := HU1.out.size; omega) Hq0.out Hq1.out Hq2.out
  revert hst
  generalize ((((((((w1.setCell ⟨w.heap.size, 0, none⟩ (.pointer (some ⟨b, 0, none⟩))).alloc (.cells #[.int .i64 1] 3)).alloc (.cells #[.int .i64 0] 3)).alloc (.cells #[.string ⟨#[]⟩] 9)).alloc (.cells #[.func (.func 25) #[] #[.pointer (some ⟨w1.heap.size + 1 + 1, 0, none⟩), .pointer (some ⟨w.heap.size, 0, none⟩), .pointer (some ⟨w1.heap.size, 0, none⟩), .pointer (some ⟨w1.heap.size + 1, 0, none⟩)]] 67)).alloc (.cells #[.string (bs l)] 9)).alloc (.cells #[.string ⟨#[10]⟩] 9)).alloc (.cells #[.int .i64 1] 3)) = W0
  rintro ⟨hI0, hs0⟩
  have hc4 := hs0.lt
  have hw0 := hI0.upd.size
  have hqc := hI0.qc
  have HI0 := hid hI0
  have HS0 := hid hs0
  clear x0 f0 HH1 HU1 HS1 Hq0 Hq1 Hq2 HQ HU0 hz0 Hnew Hss hI0 hs0
  generalize w1.heap.size = c at *
  clear l0
  refine wpIn_rangeFunc_cellE (F := Fence.wide) (n := 20) rfl (by omega) (gf := 110) (lb := #[.pointer (some ⟨c + 5, 0, none⟩), .pointer (some ⟨c + 4, 0, none⟩), .pointer (some ⟨c + 6, 0, none⟩)]) rfl trivial (enters_of Tryz.func110 (by kernel_rfl) rfl)
    (splitA_iter (20 - 1) (by omega) (c + 5) (c + 4) (c + 6) l (by omega)) rfl hc4 ((HS0.out.cell 0).trans rfl)
    (fun pre W => LoadI w b w.heap.size c pre W) (fun pre W => LoadX w w.heap.size pre W) (fun s A o h => h.keep ((Upd.refl A []).alloc o) (by simp)) (fun s A k o o' h hk ho hc => h.keep (F := [k]) ((Upd.refl A [k]).grown (grownBy_putObj' A k o') (fun j e => by cases e; left; simp)) (fun j hj => by rw [List.mem_singleton.1 hj]; exact ⟨by omega, no_data ho hc⟩))
    (fun s A k o o' h hk ho hc => h.keep (F := [k]) ((Upd.refl A [k]).grown (grownBy_putObj' A k o') (fun j e => by cases e; left; simp)) (fun j hj => by rw [List.mem_singleton.1 hj]; exact ⟨by omega, no_data ho hc⟩)) (fun s A v h => h.setS v) (fun s A h => ⟨(h.cp.cell 0).trans rfl, (h.cv.cell 0).trans rfl, by obtain ⟨v, hv⟩ := h.cs; exact hv.frozen 0⟩)
    HI0.out
    (fun x => { tmps := #[Value.string (bs l), undef, Value.pointer (some { block := w.heap.size, off := 0 }), Value.pointer (some { block := w.heap.size + 1, off := 0 }), Value.pointer (some { block := w.heap.size + 1 + 1, off := 0 }), Value.pointer (some { block := c, off := 0 }), Value.pointer (some { block := c + 1, off := 0 }), Value.pointer (some { block := c + 1 + 1, off := 0 }), Value.pointer (some { block := c + 1 + 1 + 1, off := 0 }), Value.string (bs x), undef, undef, undef, undef, Value.pointer (some { block := b, off := 0 }),
      Value.func (Fn.func 25) #[] #[Value.pointer (some { block := c + 1 + 1, off := 0 }), Value.pointer (some { block := w.heap.size, off := 0 }), Value.pointer (some { block := c, off := 0 }), Value.pointer (some { block := c + 1, off := 0 })], Value.string (bs l),
      Value.func (Fn.func 110) #[] #[Value.pointer (some { block := c + 1 + 1 + 1 + 1 + 1, off := 0 }), Value.pointer (some { block := c + 1 + 1 + 1 + 1, off := 0 }), Value.pointer (some { block := c + 1 + 1 + 1 + 1 + 2, off := 0 })], Value.string (bs x), undef, undef, undef, undef, undef, undef, undef, undef, undef, undef, undef, undef, undef, undef, undef, undef, undef, undef, undef, undef, undef, undef, undef, undef, undef, undef, undef, undef], defers := [] }) ?assign ?body ?done ?stop
  case assign =>
    intro lp x W K hK
    gi_wp2
    exact hK
  case body =>
    rintro lp pre x W hpx hI hBs
    obtain ⟨mb2, es, S2, s, hp, hM⟩ := hI.open_
    have hfar := from_far defD pre _ _ hp
    have hsn := from_snoc defD pre ⟨baseW, 1, 0, []⟩ x
    rw [hp] at hsn
    simp only at hfar hsn
    have hpl := pieces_len 10 l
    have hfl := congrArg List.length (pieces_flat 10 l)
    obtain ⟨tl, htl⟩ := hpx
    rw [← htl] at hpl hfl
    simp only [List.length_append, List.flatten_append, List.flatten_cons, List.flatten_nil, List.append_nil, List.length_cons, List.length_nil] at hpl hfl hfar
    have hn : s.n ≤ l.length := by omega
    have hbg : s.bg ≤ l.length + 2 := by omega
    have htx : s.text.length + x.length ≤ l.length := by omega
    have Hsn := hid hsn
    have hML := hM.line x
    have n0 := (hM.ld.cn.cell 0).trans (show _ = some (.int .i64 s.n) from rfl)
    have nf := hM.ld.cn.frozen 0
    have nl := hM.ld.cn.lt
    have t0 := (hM.ld.ct.cell 0).trans (show _ = some (.string (bs s.text)) from rfl)
    have tf := hM.ld.ct.frozen 0
    have tl' := hM.ld.ct.lt
    have hcat : bs s.text ++ bs x = bs (s.text ++ x) := by
      apply ByteArray.ext
      simp [bs]
    have hwn : wrap64 ((s.n : Int) + 1) = s.n + 1 := by unfold wrap64; omega
    have hcmp : ((bs x).toList == [101, 110, 100, 10]) = decide (x = endLine) := by
      have h9 := bs_beq x endLine
      rw [bs_toList endLine] at h9
      exact h9
    have k0 := (hM.cf.cell 0).trans (show _ = some (.func (.func 25) #[] #[.pointer (some ⟨c + 1 + 1, 0, none⟩), .pointer (some ⟨w.heap.size, 0, none⟩), .pointer (some ⟨c, 0, none⟩), .pointer (some ⟨c + 1, 0, none⟩)]) from rfl)
    have kl := hM.cf.lt
    have HML := hid hML
    have hb1 := from_bg defD pre ⟨baseW, 1, 0, []⟩ s (by simp) hp
    have hsz : ¬ 9223372036854775807 < (bs s.text).size + (bs x).size := by rw [bs_size, bs_size]; omega
    have Hbd := hid (And.intro hn (And.intro hbg (And.intro htx hb1)))
    obtain ⟨sws, sbg, sn, stx⟩ := s
    simp only at n0 t0 hcat hwn HML Hbd Hsn hsz
    generalize bs (stx ++ x) = bt at hcat HML
    have HKI := hid (And.intro hw0 (And.intro hc4 hqc))
    clear hp hfar hsn hpl hfl htl hML hI hM hn hbg htx hb1 hw0 hc4 hqc
    by_cases hx : x = endLine
    · rw [decide_eq_true hx] at hcmp
      have Hx := hid hx
      clear hx
      cases ht : takeL defD ⟨sws, sbg, sn + 1, stx ++ x⟩ with
      | inl ws =>
        have Htk := fun (W2 : World) (h : LoadM w b w.heap.size c mb2 es S2 ⟨sws, sbg, sn + 1, stx ++ x⟩ W2) => hid (h.takeOk HE.out (by have := Hbd.out.2.2.1; show (stx ++ x).length ≤ _; rw [List.length_append]; omega) (by have := Hbd.out.2.1; show sbg ≤ _; omega) (by have := Hbd.out.1; show sn + 1 ≤ _; omega) ht)
        have Hs2 : Hid (loadFrom defD ⟨baseW, 1, 0, []⟩ (pre ++ [x]) = .inl ⟨ws, sn + 2, sn + 1, []⟩) := hid (by
          rw [Hsn.out]
          unfold pieceL
          rw [if_pos Hx.out]
          simp only
          rw [ht])
        clear ht
        gi_wp2_with (refine ⟨trivial, ?_⟩; gi_at_call 25; refine (CallsIn.mono (CallsIn.inRound lp (callsIn_wide.2 (Htk _ HML.out.1).out)) ?_); rintro e W3 ⟨at_, rfl, hM3, hk3, hc3⟩; have HM3 := hid hM3; have HK3 := hid hk3; have HC3 := hid hc3; clear hM3 hk3 hc3)
        obtain ⟨es3, S3, hM3⟩ := HM3.out
        exact ⟨HML.out.2.1.trans HK3.out, hM3.close Hs2.out, HC3.out.trans HML.out.2.2⟩
      | inr y =>
        obtain ⟨yn, ye⟩ := y
        have Htk := fun (W2 : World) (h : LoadM w b w.heap.size c mb2 es S2 ⟨sws, sbg, sn + 1, stx ++ x⟩ W2) => hid (h.takeBad HE.out (by have := Hbd.out.2.2.1; show (stx ++ x).length ≤ _; rw [List.length_append]; omega) (by have := Hbd.out.2.1; show sbg ≤ _; omega) (by have := Hbd.out.1; show sn + 1 ≤ _; omega) ht)
        have hye : (ye != 0) = true := bne_iff_ne.2 (take_line defD (s := ⟨sws, sbg, sn + 1, stx ++ x⟩) Hbd.out.2.2.2 ht).2
        have Hs2 : Hid (loadFrom defD ⟨baseW, 1, 0, []⟩ (pre ++ [x]) = .inr (yn, ye)) := hid (by
          rw [Hsn.out]
          unfold pieceL
          rw [if_pos Hx.out]
          simp only
          rw [ht])
        clear ht
        gi_wp2_with (refine ⟨trivial, ?_⟩; gi_at_call 25; refine (CallsIn.mono (CallsIn.inRound lp (callsIn_wide.2 (Htk _ HML.out.1).out)) ?_); rintro e W3 ⟨rfl, hk3, hu3, hq0, hq1, hq2⟩; have r0 := (hq0.cell 0).trans (show _ = some (.pointer (some ⟨b, 0, none⟩)) from rfl); have r1 := (hq1.cell 0).trans (show _ = some (.int .i64 0) from rfl); have r2 := (hq2.cell 0).trans (show _ = some (.int .i64 0) from rfl); have g0 := hq0.frozen 0; have g1 := hq1.frozen 0; have g2 := hq2.frozen 0; have z0 := hq0.lt; have z1 := hq1.lt; have z2 := hq2.lt; have HK3 := hid hk3; have HRS := hid (res_set hu3 (Nat.le_refl _) hq0 hq1 hq2 (.pointer none) (.int .i64 yn) (.int .i64 ye)); clear hk3 hu3 hq0 hq1 hq2)
        obtain ⟨k1, k2, k3, k4, k5, -⟩ := HRS.out
        exact ⟨(HML.out.2.1.trans HK3.out).trans k2, ⟨(yn, ye), Hs2.out, k3, k4, k5⟩, k1⟩
    · rw [decide_eq_false hx] at hcmp
      have Hx := hid hx
      clear hx
      have Hs2 : Hid (loadFrom defD ⟨baseW, 1, 0, []⟩ (pre ++ [x]) = .inl ⟨sws, sbg, sn + 1, stx ++ x⟩) := hid (by
        rw [Hsn.out]
        unfold pieceL
        rw [if_neg Hx.out])
      gi_wp2_with (fail)
      exact ⟨HML.out.2.1, HML.out.1.close Hs2.out, HML.out.2.2⟩
  case done =>
    rintro D W hD hI hK
    obtain ⟨mb2, es, S2, s, hp, hM⟩ := hI.open_
    have hfar := from_far defD _ _ _ hp
    have hpl := pieces_len 10 l
    have hfl := congrArg List.length (pieces_flat 10 l)
    have hb1 := from_bg defD _ ⟨baseW, 1, 0, []⟩ s (by simp) hp
    simp only [List.length_nil] at hfar
    have Hbd := hid (show s.n ≤ l.length + 1 ∧ s.bg ≤ l.length + 2 ∧ s.text.length ≤ l.length ∧ 1 ≤ s.bg from ⟨by omega, by omega, by omega, hb1⟩)
    have HO : Hid (loadL defD baseW l = if s.text = [] then .inl s.ws else takeL defD s) := hid (by unfold loadL; rw [hp])
    have q0 := (hM.ld.cw.cell 0).trans (show _ = some (.pointer (some ⟨b, 0, none⟩)) from rfl)
    have qf := hM.ld.cw.frozen 0
    have ql := hM.ld.cw.lt
    have q1 := (hM.cl.cell 0).trans (show _ = some (.int .i64 0) from rfl)
    have qf1 := hM.cl.frozen 0
    have ql1 := hM.cl.lt
    have q2 := (hM.ce.cell 0).trans (show _ = some (.int .i64 0) from rfl)
    have qf2 := hM.ce.frozen 0
    have ql2 := hM.ce.lt
    have t0 := (hM.ld.ct.cell 0).trans (show _ = some (.string (bs s.text)) from rfl)
    have tl := hM.ld.ct.lt
    have k0 := (hM.cf.cell 0).trans (show _ = some (.func (.func 25) #[] #[.pointer (some ⟨c + 1 + 1, 0, none⟩), .pointer (some ⟨w.heap.size, 0, none⟩), .pointer (some ⟨c, 0, none⟩), .pointer (some ⟨c + 1, 0, none⟩)]) from rfl)
    have kl := hM.cf.lt
    have hcmp : ((bs s.text).toList == []) = decide (s.text = []) := by
      have h9 := bs_beq s.text []
      rw [bs_toList []] at h9
      exact h9
    have HM := hid hM
    have HK := hid hK
    have HDw := hid (show w.heap.size ≤ D by omega)
    clear hM hI hp hfar hpl hfl hb1 hK hD hw0 hc4 hqc
    by_cases htx : s.text = []
    · rw [decide_eq_true htx] at hcmp
      have HO2 := hid (HO.out.trans (if_pos htx))
      clear htx HO
      gi_wp2
      obtain ⟨hU5, hk5, d0, d1, d2, hu5⟩ := res_set HM.out.upd (Nat.le_refl _) HM.out.ld.cw HM.out.cl HM.out.ce (.pointer (some ⟨b, 0, none⟩)) (.int .i64 0) (.int .i64 0)
      have hK5 := hk5.same D _ HK.out rfl
      refine ⟨by simp, .inl ⟨_, _, rfl, run_takeDeferred hK5, ?_⟩⟩
      obtain ⟨hU6, hu6, c0, c1, c2⟩ := res_put hU5 HDw.out hK5 d0 d1 d2 (.deferred none)
      refine ⟨.tuple #[.pointer (some ⟨b, 0, none⟩), .int .i64 0, .int .i64 0], by simp [results, Tryz.results10, go_sem, c0, c1, c2], ?_⟩
      show loadPost l w _ _
      unfold loadPost
      rw [HO2.out]
      refine ⟨⟨b, mb2, es, S2, rfl, (HM.out.hw.far hu5 (fun k hk hm => ?_)).far hu6 (fun k hk hm => ?_), HM.out.rs, fun k hk => (HM.out.dat k hk).2.1⟩, hU6⟩
      · have := (HM.out.dat k hm).2.2.1
        simp at hk
        omega
      · rw [List.mem_singleton.1 hk] at hm
        exact no_data HK.out rfl (HM.out.dat _ hm).1
    · rw [decide_eq_false htx] at hcmp
      have HO1 := hid (HO.out.trans (if_neg htx))
      clear htx HO
      clear q0 qf ql q1 qf1 ql1 q2 qf2 ql2
      cases ht : takeL defD s with
      | inl ws =>
        have HO2 := hid (HO1.out.trans ht)
        have Htk := hid (HM.out.takeOk HE.out (by have := Hbd.out.2.2.1; omega) (by have := Hbd.out.2.1; omega) (by have := Hbd.out.1; omega) ht)
        clear ht HO1
        gi_wp2_with (refine ⟨trivial, ?_⟩; gi_at_call 25; refine (CallsIn.mono (callsIn_wide.2 Htk.out) ?_); rintro e W3 ⟨at_, rfl, ⟨es3, S3, hM3⟩, hk3, -⟩; have hq0 := hM3.ld.cw; have hq1 := hM3.cl; have hq2 := hM3.ce; have r0 := (hq0.cell 0).trans (show _ = some (.pointer (some ⟨b, 0, none⟩)) from rfl); have r1 := (hq1.cell 0).trans (show _ = some (.int .i64 0) from rfl); have r2 := (hq2.cell 0).trans (show _ = some (.int .i64 0) from rfl); have g0 := hq0.frozen 0; have g1 := hq1.frozen 0; have g2 := hq2.frozen 0; have z0 := hq0.lt; have z1 := hq1.lt; have z2 := hq2.lt; have HM3 := hid hM3; have HK3 := hid (hk3.same D _ HK.out rfl); clear hM3 hk3 hq0 hq1 hq2)
        obtain ⟨hU5, hk5, d0, d1, d2, hu5⟩ := res_set HM3.out.upd (Nat.le_refl _) HM3.out.ld.cw HM3.out.cl HM3.out.ce (.pointer (some ⟨b, 0, none⟩)) (.int .i64 0) (.int .i64 0)
        have hK5 := hk5.same D _ HK3.out rfl
        refine ⟨by simp, .inl ⟨_, _, rfl, run_takeDeferred hK5, ?_⟩⟩
        obtain ⟨hU6, hu6, c0, c1, c2⟩ := res_put hU5 HDw.out hK5 d0 d1 d2 (.deferred none)
        refine ⟨.tuple #[.pointer (some ⟨b, 0, none⟩), .int .i64 0, .int .i64 0], by simp [results, Tryz.results10, go_sem, c0, c1, c2], ?_⟩
        show loadPost l w _ _
        unfold loadPost
        rw [HO2.out]
        refine ⟨⟨b, mb2, es3, S3, rfl, (HM3.out.hw.far hu5 (fun k hk hm => ?_)).far hu6 (fun k hk hm => ?_), HM3.out.rs, fun k hk => (HM3.out.dat k hk).2.1⟩, hU6⟩
        · have := (HM3.out.dat k hm).2.2.1
          simp at hk
          omega
        · rw [List.mem_singleton.1 hk] at hm
          exact no_data HK3.out rfl (HM3.out.dat _ hm).1
      | inr y =>
        obtain ⟨yn, ye⟩ := y
        have HO2 := hid (HO1.out.trans ht)
        have Htk := hid (HM.out.takeBad HE.out (by have := Hbd.out.2.2.1; omega) (by have := Hbd.out.2.1; omega) (by have := Hbd.out.1; omega) ht)
        have hye : (ye != 0) = true := bne_iff_ne.2 (take_line defD (s := s) Hbd.out.2.2.2 ht).2
        clear ht HO1
        gi_wp2_with (refine ⟨trivial, ?_⟩; gi_at_call 25; refine (CallsIn.mono (callsIn_wide.2 Htk.out) ?_); rintro e W3 ⟨rfl, hk3, hu3, hq0, hq1, hq2⟩; have r0 := (hq0.cell 0).trans (show _ = some (.pointer (some ⟨b, 0, none⟩)) from rfl); have r1 := (hq1.cell 0).trans (show _ = some (.int .i64 0) from rfl); have r2 := (hq2.cell 0).trans (show _ = some (.int .i64 0) from rfl); have g0 := hq0.frozen 0; have g1 := hq1.frozen 0; have g2 := hq2.frozen 0; have z0 := hq0.lt; have z1 := hq1.lt; have z2 := hq2.lt; have HK3 := hid (hk3.same D _ HK.out rfl); have HRS := hid (res_set hu3 (Nat.le_refl _) hq0 hq1 hq2 (.pointer none) (.int .i64 yn) (.int .i64 ye)); clear hk3 hu3 hq0 hq1 hq2)
        obtain ⟨hU5, hk5, d0, d1, d2, -⟩ := HRS.out
        have hK5 := hk5.same D _ HK3.out rfl
        refine ⟨by simp, .inl ⟨_, _, rfl, run_takeDeferred hK5, ?_⟩⟩
        obtain ⟨hU6, -, c0, c1, c2⟩ := res_put hU5 HDw.out hK5 d0 d1 d2 (.deferred none)
        refine ⟨.tuple #[.pointer none, .int .i64 yn, .int .i64 ye], by simp [results, Tryz.results10, go_sem, c0, c1, c2], ?_⟩
        show loadPost l w _ _
        unfold loadPost
        rw [HO2.out]
        exact ⟨rfl, hU6⟩
  case stop =>
    rintro D pre W hD hpre hX hK
    obtain ⟨⟨xn, xe⟩, hx1, hq0, hq1, hq2⟩ := hX.ex
    obtain ⟨tl, htl⟩ := hpre
    have hall := from_inr defD pre tl hx1
    rw [htl] at hall
    have HO : Hid (loadL defD baseW l = .inr (xn, xe)) := hid (by unfold loadL; rw [hall])
    gi_wp2
    refine ⟨by simp, .inl ⟨_, _, rfl, run_takeDeferred hK, ?_⟩⟩
    obtain ⟨hU, -, c0, c1, c2⟩ := res_put hX.upd (by omega) hK hq0 hq1 hq2 (.deferred none)
    refine ⟨.tuple #[.pointer none, .int .i64 xn, .int .i64 xe], by simp [results, Tryz.results10, go_sem, c0, c1, c2], ?_⟩
    show loadPost l w _ _
    unfold loadPost
    rw [HO.out]
    exact ⟨rfl, hU⟩
end Go.Proofs.YtfpdeiefkimaaaaGreatDoor
