/-
  The law StackLast answers true for every two numbers and every two lists: what is put last is taken first, and a frame that is left leaves the one below as it was. No conditions.
-/
import Derived.Test.YtgdjhbnnkadjeaaRows
import Derived.Test.YtgdjhbnnkadjeaaRowEnd
import Derived.Test.YtgdjhbnnkadjeaaLawF
namespace Go.Proofs.Ytgdjhbnnkadjeaa.stackLast
open Go.ChangeShapes Go.WideShapes Go.ChangeAt Go.RowKit
set_option linter.unusedVariables false

theorem vals_list (W : World) (A : Option Addr) (n : Nat) (h : 0 < n → ∃ bk off, A = some ⟨bk, off, none⟩ ∧ bk < W.heap.size ∧ ∀ i, i < n → ValAt W bk off i) : ∃ vs : List V2, vs.length = n ∧ ValsAt W A vs := by
  rcases Nat.eq_zero_or_pos n with rfl | h0
  · exact ⟨[], rfl, fun i hi => by simp at hi⟩
  · obtain ⟨bk, off, rfl, hb, hs⟩ := h h0
    have gen : ∀ k, k ≤ n → ∃ vs : List V2, vs.length = k ∧ ∀ i, i < k → W.cell? ⟨bk, off + i * 2, none⟩ = some (.bool (vs.getD i zero2).ref) ∧ W.cell? ⟨bk, off + i * 2 + 1, none⟩ = some (.int .i64 (vs.getD i zero2).n) := by
      intro k
      induction k with
      | zero => intro _; exact ⟨[], rfl, fun i hi => by omega⟩
      | succ k ih =>
        intro hk
        obtain ⟨vs, hl, hv⟩ := ih (by omega)
        obtain ⟨v, h1, h2⟩ := hs k (by omega)
        refine ⟨vs ++ [v], by simp [hl], fun i hi => ?_⟩
        by_cases e : i = k
        · subst e
          rw [show (vs ++ [v]).getD i zero2 = v by simp [List.getD, ← hl]]
          exact ⟨h1, h2⟩
        · rw [show (vs ++ [v]).getD i zero2 = vs.getD i zero2 by simp only [List.getD]; rw [List.getElem?_append_left (by omega)]]
          exact hv i (by omega)
    obtain ⟨vs, hl, hv⟩ := gen n (Nat.le_refl _)
    exact ⟨vs, hl, fun i hi => ⟨bk, off, rfl, hb, hv i (by omega)⟩⟩

theorem walk (W : World) (l r : Int) (A C : Option Addr) (n c m d : Nat) (hn : n ≤ 9223372036854775807) (hm : m ≤ 9223372036854775807) (h : 0 < n → ∃ bk off, A = some ⟨bk, off, none⟩ ∧ bk < W.heap.size ∧ ∀ i, i < n → ValAt W bk off i)
    (h2 : 0 < m → ∃ bk off, C = some ⟨bk, off, none⟩ ∧ bk < W.heap.size ∧ ∀ i, i < m → OpAt W bk off i) :
    Calls Try.prog 4 #[.int .i64 l, .int .i64 r, .slice A n c, .slice C m d] W fun e w' => e = .returned (.bool true) ∧ Below W.heap.size W w' := by
  by_cases hbad : l < 0 ∨ 40 < l ∨ r < 0 ∨ 40 < r
  · exact last_bad l r _ _ W hbad
  · obtain ⟨ln, rfl⟩ : ∃ n : Nat, l = n := ⟨l.toNat, by omega⟩
    obtain ⟨rn, rfl⟩ : ∃ n : Nat, r = n := ⟨r.toNat, by omega⟩
    obtain ⟨vs, rfl, hvs⟩ := vals_list W A n h
    exact last_good ln rn A C vs c m d W (by omega) (by omega) hn hm hvs fun i hi => by
      obtain ⟨bk, off, e, hb, hs⟩ := h2 (by omega)
      exact ⟨bk, off, e, hb, hs i hi⟩

set_option maxRecDepth 100000 in
theorem lifted (os : Os) (started : os.Started) (H : Type) (enc : TypeId × Value → H) :
    ReturnsInHanded {} Try.checked os 4 .any (Rows.stackLastSpec.pre6 enc Try.prog Try.f4 Rows.stackLastRow.domain false) (Rows.stackLastSpec.post enc Try.prog Try.f4 false true false false) := by
  refine returnsInHanded_of_change (C := Try.checked) Try_own started (by kernel_rfl) Try.func4
    (ChangeSpec.witness6 (enc := enc) (C := Try.checked) false ⟨#[], #[.int .i64 0, .int .i64 0, .slice none 0 0, .slice none 0 0], []⟩ 8 (by kernel_rfl) (by kernel_rfl) (by kernel_rfl) (by kernel_rfl)) ?_
  intro W base args ds gs before hval0 hW hcnd _
  have hval : ∀ (j : Nat) t v, Try.f4.params[j]? = some t → args[j]? = some v → Value.okWide Try.prog W .any base t v := hval0
  have hlt : ∀ p ∈ before, p.block < W.heap.size := fun p hp => hW.lt p hp
  have hW' := hW
  obtain ⟨p, q, hA0, hV, rfl, hfz, hnd⟩ := hW
  have hA : DataW.TrodAll enc Try.prog W 0 (fun _ => true) true Try.f4.params.toList args.toList ds p := hA0
  rw [Try.params4] at hA hval
  obtain ⟨v0, vs0, d0, ds0, p0, q0, hargs, rfl, rfl, h0, r0⟩ := trodAll_cons hA
  obtain ⟨v1, vs1, d1, ds1, p1, q1, rfl, rfl, rfl, h1, r1⟩ := trodAll_cons r0
  obtain ⟨v2, vs2, d2, ds2, p2, q2, rfl, rfl, rfl, h2, r2⟩ := trodAll_cons r1
  obtain ⟨v3, vs3, d3, ds3, p3, q3, rfl, rfl, rfl, h3, r3⟩ := trodAll_cons r2
  obtain ⟨rfl, rfl, rfl⟩ := trodAll_nil r3
  obtain rfl : args = #[v0, v1, v2, v3] := by cases args; simp_all
  obtain ⟨rfl, rfl⟩ := trodVars_none hV
  obtain ⟨a0, rfl, rfl, rfl, w0⟩ := open_int Try.underlying3 (hval 0 3 v0 rfl rfl) h0
  obtain ⟨a1, rfl, rfl, rfl, w1⟩ := open_int Try.underlying3 (hval 1 3 v1 rfl rfl) h1
  have h2k := h2
  have h3k := h3
  obtain ⟨A, n, c, rfl, hn, hvals⟩ := open_vals (hval 2 30 v2 rfl rfl) h2
  obtain ⟨C, m, d, rfl, hm, hops⟩ := open_ops (hval 3 31 v3 rfl rfl) h3
  clear hA0 hval0
  simp only [List.append_nil, List.nil_append] at hW' hlt
  refine (walk W a0 a1 A C n c m d hn hm hvals hops).mono fun e W' ⟨he, hg⟩ => ?_
  subst he
  exact ⟨_, rfl, post_of_below (pa := [] ++ ([] ++ (p2 ++ p3))) (pv := []) hW' (fun _ _ _ => (trodAll_cons_mk (shut_bool Try.underlying4 _) trodAll_mk0))
    (fun sp hsp => trodAll_cons_mk (shut_int Try.underlying3 w0) (trodAll_cons_mk (shut_int Try.underlying3 w1) (trodAll_cons_mk
      (WideElems.Trod_stays Try_laidOut (by kernel_rfl) (of_decide_eq_true (by kernel_rfl)) h2k (fun x hx => hg.same (hlt x (by simp [hx]))) (fun x hx => hsp x (by simp [hx])))
      (trodAll_mk1 (WideElems.Trod_stays Try_laidOut (by kernel_rfl) (of_decide_eq_true (by kernel_rfl)) h3k (fun x hx => hg.same (hlt x (by simp [hx]))) (fun x hx => hsp x (by simp [hx]))))))) (fun _ _ => rfl) (by simp)
    hg (ok_one (by kernel_rfl) rfl (okWide_bool_mk Try.underlying4 _))⟩

theorem over : Rows.stackLastRow.holds Try.pinned (OpenSpec.ofChange Rows.stackLastSpec) :=
  OpenClaim.holds_of_wide 4 Try.f4 rfl rfl rfl rfl rfl rfl rfl ⟨rfl, rfl, rfl, rfl, rfl⟩ rfl rfl rfl rfl rfl (by kernel_rfl) Try.func4 (by kernel_rfl)
    (of_decide_eq_true (by kernel_rfl)) (by unfold Func.isWrapper; first | (rw [if_pos (by decide +kernel)]; kernel_rfl) | (rw [if_neg (by decide +kernel)]; exact ⟨rfl, rfl⟩))
    (fun os started H enc _ => lifted os started H enc)

theorem proved : Rows.StackLastSaid :=
  over
#print axioms proved
end Go.Proofs.Ytgdjhbnnkadjeaa.stackLast
