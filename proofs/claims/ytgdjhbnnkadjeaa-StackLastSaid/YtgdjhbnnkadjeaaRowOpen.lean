/- Slices of values and of things done, opened to their cells. -/
import Derived.Test.YtgdjhbnnkadjeaaRowEnd
import Derived.Test.YtgdjhbnnkadjeaaLawE
import Derived.Deep.Slices
import Derived.Carry
namespace Go.Proofs.Ytgdjhbnnkadjeaa
open Go.ChangeShapes Go.WideShapes Go.ChangeAt Go.RowKit Go.Deep

theorem Try_cells37 : Try.prog.cellsOf 37 = 5 := by kernel_rfl
theorem Try_cells34 : Try.prog.cellsOf 34 = 2 := by kernel_rfl
theorem Try_cells3 : Try.prog.cellsOf 3 = 1 := by kernel_rfl
theorem Try_cells4 : Try.prog.cellsOf 4 = 1 := by kernel_rfl
theorem Try_laidOut : laidOutB Try.prog = true := by kernel_rfl

theorem nospot {w : World} {a : Addr} {v : Value} (h : w.cell? a = some v) : a.spot = none := by
  unfold World.cell? at h
  split at h
  · split at h
    · cases h
    · rename_i hs; simpa using hs
  · cases h

theorem val34 {H : Type} {enc : TypeId × Value → H} {w : World} {base : Nat} {spare : Nat → Bool} {held : Bool} {fuel : Nat} {cs : List Value} {x : DataW H × List MemPlace} (h : DataW.trod enc Try.prog w base spare held fuel 34 cs = some x) :
    ∃ v : V2, cs = [.bool v.ref, .int .i64 v.n] := by
  obtain ⟨xs, n, _, _, hl, hxl, hf⟩ := DataW.trod_struct Try.underlying34 h
  rw [Try_cells34] at hl
  have h0 : DataW.trod enc Try.prog w base spare held n 4 ((cs.drop 0).take (Try.prog.cellsOf 4)) = xs[0]? := hf 0 _ rfl
  have h1 : DataW.trod enc Try.prog w base spare held n 3 ((cs.drop 1).take (Try.prog.cellsOf 3)) = xs[1]? := hf 1 _ rfl
  rw [Try_cells4] at h0
  rw [Try_cells3] at h1
  match cs, hl with
  | [c0, c1], _ =>
    match xs, hxl with
    | [y0, y1], _ =>
      obtain ⟨b, hb, _⟩ := DataW.trod_bool Try.underlying4 h0
      obtain ⟨n, hn, _⟩ := DataW.trod_int Try.underlying3 h1
      simp at hb hn
      exact ⟨⟨b, n⟩, by rw [hb, hn]⟩

theorem op37 {H : Type} {enc : TypeId × Value → H} {w : World} {base : Nat} {spare : Nat → Bool} {held : Bool} {fuel : Nat} {cs : List Value} {x : DataW H × List MemPlace} (h : DataW.trod enc Try.prog w base spare held fuel 37 cs = some x) :
    ∃ (k a b : Int) (v : V2), cs = [.int .i64 k, .int .i64 a, .int .i64 b, .bool v.ref, .int .i64 v.n] := by
  obtain ⟨xs, n, _, _, hl, hxl, hf⟩ := DataW.trod_struct Try.underlying37 h
  rw [Try_cells37] at hl
  have h0 : DataW.trod enc Try.prog w base spare held n 3 ((cs.drop 0).take (Try.prog.cellsOf 3)) = xs[0]? := hf 0 _ rfl
  have h1 : DataW.trod enc Try.prog w base spare held n 3 ((cs.drop 1).take (Try.prog.cellsOf 3)) = xs[1]? := hf 1 _ rfl
  have h2 : DataW.trod enc Try.prog w base spare held n 3 ((cs.drop 2).take (Try.prog.cellsOf 3)) = xs[2]? := hf 2 _ rfl
  have h3 : DataW.trod enc Try.prog w base spare held n 34 ((cs.drop 3).take (Try.prog.cellsOf 34)) = xs[3]? := hf 3 _ rfl
  rw [Try_cells3] at h0 h1 h2
  rw [Try_cells34] at h3
  match cs, hl with
  | [c0, c1, c2, c3, c4], _ =>
    match xs, hxl with
    | [y0, y1, y2, y3], _ =>
      obtain ⟨k, hk, _⟩ := DataW.trod_int Try.underlying3 h0
      obtain ⟨a, ha, _⟩ := DataW.trod_int Try.underlying3 h1
      obtain ⟨b, hb, _⟩ := DataW.trod_int Try.underlying3 h2
      obtain ⟨v, hv⟩ := val34 h3
      simp at hk ha hb hv
      exact ⟨k, a, b, v, by rw [hk, ha, hb, hv.1, hv.2]⟩

def ValAt (w : World) (bk off i : Nat) : Prop := ∃ v : V2, w.cell? ⟨bk, off + i * 2, none⟩ = some (.bool v.ref) ∧ w.cell? ⟨bk, off + i * 2 + 1, none⟩ = some (.int .i64 v.n)

theorem add_at {a : Addr} (ha : a.spot = none) (i : Nat) : a.add i = ⟨a.block, a.off + i, none⟩ := by
  obtain ⟨b, o, s⟩ := a
  simp only at ha
  subst ha
  unfold Addr.add
  split
  · rename_i h; simp [h]
  · rfl

theorem open_ops {H : Type} {enc : TypeId × Value → H} {W : World} {base : Nat} {v : Value} {d : DataW H} {p : List MemPlace} (hv : Value.okWide Try.prog W .any base 31 v) (h : DataW.Trod enc Try.prog W 0 (fun _ => true) true 31 v d p) :
    ∃ A n c, v = .slice A n c ∧ n ≤ 9223372036854775807 ∧ (0 < n → ∃ bk off, A = some ⟨bk, off, none⟩ ∧ bk < W.heap.size ∧ ∀ i, i < n → OpAt W bk off i) := by
  obtain ⟨a0, len0, cap0, rfl⟩ := okWide_slice Try.underlying31 hv
  obtain ⟨fuel, hf⟩ := h
  rcases open_slice Try.underlying31 hf with ⟨hcs, hx⟩ | ⟨a, len, cap, m, n, D, Pl, hcs, hb, hl, hm, hmm, hx, hi⟩
  · simp [Value.cells] at hcs
    obtain ⟨rfl, rfl, rfl⟩ := hcs
    exact ⟨none, 0, 0, rfl, by omega, fun h => by omega⟩
  · simp [Value.cells] at hcs
    obtain ⟨rfl, rfl, rfl⟩ := hcs
    refine ⟨some a, len0, cap0, rfl, by unfold maxLen at hm; omega, fun hpos => ?_⟩
    simp only [if_true] at hmm
    subst hmm
    rw [Try_cells37] at hi
    have key : ∀ i, i < len0 → ∃ (k a' b : Int) (v : V2), ∀ j, j < 5 → W.cell? ((a.add (i * 5)).add j) = [.int .i64 k, .int .i64 a', .int .i64 b, .bool v.ref, .int .i64 v.n][j]? := by
      intro i hil
      obtain ⟨cs', hc, ht⟩ := hi i (by omega)
      obtain ⟨_, hcl, hat⟩ := World.cells?_some hc
      obtain ⟨k, a', b, v, rfl⟩ := op37 ht
      exact ⟨k, a', b, v, hat⟩
    have hs : a.spot = none := by
      obtain ⟨k, a', b, v, hk⟩ := key 0 hpos
      have := hk 0 (by omega)
      simp [Addr.add] at this
      exact nospot this
    have key2 : ∀ i, i < len0 → OpAt W a.block a.off i := by
      intro i hil
      obtain ⟨k, a', b, v, hk⟩ := key i hil
      have e : ∀ j, (a.add (i * 5)).add j = ⟨a.block, a.off + i * 5 + j, none⟩ := fun j => by rw [add_at hs, add_at rfl]
      refine ⟨k, a', b, v, ?_, ?_, ?_, ?_, ?_⟩
      · have := hk 0 (by omega); rw [e] at this; exact this
      · have := hk 1 (by omega); rw [e] at this; exact this
      · have := hk 2 (by omega); rw [e] at this; exact this
      · have := hk 3 (by omega); rw [e] at this; exact this
      · have := hk 4 (by omega); rw [e] at this; exact this
    refine ⟨a.block, a.off, ?_, ?_, key2⟩
    · obtain ⟨b, o, s⟩ := a; simp only at hs; rw [hs]
    · obtain ⟨k, a', b, v, h0, _⟩ := key2 0 hpos
      exact World.block_lt_of_cell? W ⟨a.block, _, none⟩ h0

theorem open_vals {H : Type} {enc : TypeId × Value → H} {W : World} {base : Nat} {v : Value} {d : DataW H} {p : List MemPlace} (hv : Value.okWide Try.prog W .any base 30 v) (h : DataW.Trod enc Try.prog W 0 (fun _ => true) true 30 v d p) :
    ∃ A n c, v = .slice A n c ∧ n ≤ 9223372036854775807 ∧ (0 < n → ∃ bk off, A = some ⟨bk, off, none⟩ ∧ bk < W.heap.size ∧ ∀ i, i < n → ValAt W bk off i) := by
  obtain ⟨a0, len0, cap0, rfl⟩ := okWide_slice Try.underlying30 hv
  obtain ⟨fuel, hf⟩ := h
  rcases open_slice Try.underlying30 hf with ⟨hcs, hx⟩ | ⟨a, len, cap, m, n, D, Pl, hcs, hb, hl, hm, hmm, hx, hi⟩
  · simp [Value.cells] at hcs
    obtain ⟨rfl, rfl, rfl⟩ := hcs
    exact ⟨none, 0, 0, rfl, by omega, fun h => by omega⟩
  · simp [Value.cells] at hcs
    obtain ⟨rfl, rfl, rfl⟩ := hcs
    refine ⟨some a, len0, cap0, rfl, by unfold maxLen at hm; omega, fun hpos => ?_⟩
    simp only [if_true] at hmm
    subst hmm
    rw [Try_cells34] at hi
    have key : ∀ i, i < len0 → ∃ (v : V2), ∀ j, j < 2 → W.cell? ((a.add (i * 2)).add j) = [.bool v.ref, .int .i64 v.n][j]? := by
      intro i hil
      obtain ⟨cs', hc, ht⟩ := hi i (by omega)
      obtain ⟨_, hcl, hat⟩ := World.cells?_some hc
      obtain ⟨v, rfl⟩ := val34 ht
      exact ⟨v, hat⟩
    have hs : a.spot = none := by
      obtain ⟨v, hk⟩ := key 0 hpos
      have := hk 0 (by omega)
      simp [Addr.add] at this
      exact nospot this
    have key2 : ∀ i, i < len0 → ValAt W a.block a.off i := by
      intro i hil
      obtain ⟨v, hk⟩ := key i hil
      have e : ∀ j, (a.add (i * 2)).add j = ⟨a.block, a.off + i * 2 + j, none⟩ := fun j => by rw [add_at hs, add_at rfl]
      refine ⟨v, ?_, ?_⟩
      · have := hk 0 (by omega); rw [e] at this; exact this
      · have := hk 1 (by omega); rw [e] at this; exact this
    refine ⟨a.block, a.off, ?_, ?_, key2⟩
    · obtain ⟨b, o, s⟩ := a; simp only at hs; rw [hs]
    · obtain ⟨v, h0, _⟩ := key2 0 hpos
      exact World.block_lt_of_cell? W ⟨a.block, _, none⟩ h0
end Go.Proofs.Ytgdjhbnnkadjeaa
