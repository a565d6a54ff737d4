/-
  Package flags, walked: the words of flags.
-/
import Derived.Test.YtjjdlgjofjfgmaaDoorFlagsA
import Derived.Test.YtjjdlgjofjfgmaaDoorBuilder
import Derived.Test.YtjjdlgjofjfgmaaDoorClassC
import Derived.Deep.WholeRow
set_option linter.unusedSimpArgs false
set_option linter.unusedVariables false
namespace Go.Proofs.YtjjdlgjofjfgmaaDoor
open Go.RowKit

/-- Each flag and its word. -/
def flagT : List (Int × List UInt8) := [(1, [112, 117, 98, 108, 105, 99]), (2, [112, 114, 105, 118, 97, 116, 101]), (4, [112, 114, 111, 116, 101, 99, 116, 101, 100]), (8, [115, 116, 97, 116, 105, 99]), (16, [102, 105, 110, 97, 108]), (32, [115, 117, 112, 101, 114]), (512, [105, 110, 116, 101, 114, 102, 97, 99, 101]), (1024, [97, 98, 115, 116, 114, 97, 99, 116])]
def flagCells : Array Value := (flagT.flatMap fun p => [Value.int .i64 p.1, Value.string (bs p.2)]).toArray
theorem infoWords : (Tryd.prog.info? 152).map (·.size) = some 16 := by kernel_rfl

set_option maxRecDepth 100000 in
set_option maxHeartbeats 8000000 in
theorem flagWords_any (w : World) : Calls Tryd.prog 122 #[] w fun e w' => e = .returned (.agg flagCells) ∧ Upd w w' [] := by
  have hi := infoWords
  go_enter Tryd.func122, Tryd.ntmps122
  go_wp2
  have e : ∀ cs : Array Value, cs = flagCells → Blk (w.alloc (.cells cs 152)) w.heap.size 152 flagCells := by
    rintro cs rfl
    exact Blk.new _ _ _
  refine bodyPost_ret (v := .agg flagCells) ?_ rfl ⟨rfl, (Upd.refl _ _).alloc _⟩
  exact results_cell_row Tryd.results122 _ _ w.heap.size 152 flagCells (0, 0) (.array 8 151) rfl (e _ (by kernel_rfl)) (by kernel_rfl) rfl (by rw [infoWords]; kernel_rfl)

theorem run_word0 (w : World) : (Instr.index 152 (.agg flagCells) (.int .i64 ((0 : Nat) : Int))).run Tryd.prog w = .ok (.agg #[.int .i64 (flagT.getD 0 (0, [])).1, .string (bs (flagT.getD 0 (0, [])).2)]) w := by kernel_rfl
theorem run_word1 (w : World) : (Instr.index 152 (.agg flagCells) (.int .i64 ((1 : Nat) : Int))).run Tryd.prog w = .ok (.agg #[.int .i64 (flagT.getD 1 (0, [])).1, .string (bs (flagT.getD 1 (0, [])).2)]) w := by kernel_rfl
theorem run_word2 (w : World) : (Instr.index 152 (.agg flagCells) (.int .i64 ((2 : Nat) : Int))).run Tryd.prog w = .ok (.agg #[.int .i64 (flagT.getD 2 (0, [])).1, .string (bs (flagT.getD 2 (0, [])).2)]) w := by kernel_rfl
theorem run_word3 (w : World) : (Instr.index 152 (.agg flagCells) (.int .i64 ((3 : Nat) : Int))).run Tryd.prog w = .ok (.agg #[.int .i64 (flagT.getD 3 (0, [])).1, .string (bs (flagT.getD 3 (0, [])).2)]) w := by kernel_rfl
theorem run_word4 (w : World) : (Instr.index 152 (.agg flagCells) (.int .i64 ((4 : Nat) : Int))).run Tryd.prog w = .ok (.agg #[.int .i64 (flagT.getD 4 (0, [])).1, .string (bs (flagT.getD 4 (0, [])).2)]) w := by kernel_rfl
theorem run_word5 (w : World) : (Instr.index 152 (.agg flagCells) (.int .i64 ((5 : Nat) : Int))).run Tryd.prog w = .ok (.agg #[.int .i64 (flagT.getD 5 (0, [])).1, .string (bs (flagT.getD 5 (0, [])).2)]) w := by kernel_rfl
theorem run_word6 (w : World) : (Instr.index 152 (.agg flagCells) (.int .i64 ((6 : Nat) : Int))).run Tryd.prog w = .ok (.agg #[.int .i64 (flagT.getD 6 (0, [])).1, .string (bs (flagT.getD 6 (0, [])).2)]) w := by kernel_rfl
theorem run_word7 (w : World) : (Instr.index 152 (.agg flagCells) (.int .i64 ((7 : Nat) : Int))).run Tryd.prog w = .ok (.agg #[.int .i64 (flagT.getD 7 (0, [])).1, .string (bs (flagT.getD 7 (0, [])).2)]) w := by kernel_rfl
theorem run_word (k : Nat) (h : k < 8) (w : World) :
    (Instr.index 152 (.agg flagCells) (.int .i64 k)).run Tryd.prog w = .ok (.agg #[.int .i64 (flagT.getD k (0, [])).1, .string (bs (flagT.getD k (0, [])).2)]) w :=
  match k, h with
  | 0, _ => run_word0 w
  | 1, _ => run_word1 w
  | 2, _ => run_word2 w
  | 3, _ => run_word3 w
  | 4, _ => run_word4 w
  | 5, _ => run_word5 w
  | 6, _ => run_word6 w
  | 7, _ => run_word7 w
theorem field_word (a b : Value) (w : World) : (Instr.field 151 (.agg #[a, b]) 0).run Tryd.prog w = .ok a w := by kernel_rfl

/-- The words of flags, among the first k. -/
def flagsL (f : Int) : Nat → List (List UInt8)
  | 0 => []
  | k + 1 => flagsL f k ++ if anyF f (flagT.getD k (0, [])).1 then [(flagT.getD k (0, [])).2] else []
def flagsText (f : Int) : List UInt8 := Lib.join (flagsL f 8) [32]
def flagText (f m : Int) : List UInt8 × Int := if outF f m then ([], 1) else (flagsText f, 0)
theorem flagT_le (k : Nat) : ((flagT.getD k (0, [])).2).length ≤ 9 := by
  rcases Nat.lt_or_ge k 8 with h | h
  · match k, h with
    | 0, _ => decide
    | 1, _ => decide
    | 2, _ => decide
    | 3, _ => decide
    | 4, _ => decide
    | 5, _ => decide
    | 6, _ => decide
    | 7, _ => decide
  · rw [List.getD_eq_getElem?_getD, List.getElem?_eq_none (by show 8 ≤ k; omega)]; simp
theorem flagsL_le (f : Int) : ∀ k, (flagsL f k).length ≤ k ∧ ((flagsL f k).map List.length).sum ≤ 9 * k
  | 0 => by simp [flagsL]
  | k + 1 => by
    have h := flagsL_le f k
    have h9 := flagT_le k
    unfold flagsL
    split
    · simp only [List.length_append, List.map_append, List.sum_append, List.length_cons, List.length_nil, List.map_cons, List.map_nil, List.sum_cons, List.sum_nil]
      omega
    · simp only [List.append_nil]
      omega
theorem flagsText_le (f : Int) : (flagsText f).length ≤ 80 := by
  have h := flagsL_le f 8
  have := join_le (flagsL f 8)
  unfold flagsText
  omega

def textRel (f : Int) (w : World) (k v : Value) (wr : World) : Prop :=
  ∃ (i : Nat) (n : Nat) (u : Value), k = .int .i64 i ∧ i ≤ 8 ∧ v = u ∧ wr.ownsRow 0 9 1 u n ((flagsL f i).map strV) ∧ n ≤ 8 ∧ Upd w wr [] ∧ (∀ q, u.ownBlock = some q → w.heap.size ≤ q)

set_option maxHeartbeats 4000000 in
set_option maxRecDepth 100000 in
theorem text104_any (f m : Int) (w : World) :
    Calls Tryd.prog 104 #[.int .i64 f, .int .i64 m] w fun e w' => e = .returned (.tuple #[.string (bs (flagText f m).1), .int .i64 (flagText f m).2]) ∧ Upd w w' [] := by
  have h0 : (bits BinOp.andNot IntKind.i64 f m != 0) = outF f m := rfl
  unfold flagText
  cases ho : outF f m with
  | true =>
    rw [ho] at h0
    clear ho
    go_enter Tryd.func104, Tryd.ntmps104
    go_wp2
    go_ret2
    exact ⟨rfl, Upd.refl _ _⟩
  | false =>
    rw [ho] at h0
    clear ho
    obtain ⟨i0, hi0, qz0, qz1, qz2⟩ := info_parts infoString
    have Hw := fun w => hid (flagWords_any w)
    have Hl := hid (flagsL_le f 8)
    have Ht := hid (flagsText_le f)
    go_enter Tryd.func104, Tryd.ntmps104
    go_wp2_with fail
    refine (Hw _).out.mono ?_
    rintro e w1 ⟨rfl, hU1⟩
    clear h0 Hw
    generalize hfc : flagCells = fc
    have Hfc := hid hfc
    clear hfc
    go_wp2
    go_loopw [14, 6] (fun t v wr => textRel f w1 t v wr) (fun t _ _ => 8 - (intOf t).toNat)
    case atStart => exact ⟨0, 0, _, rfl, by omega, rfl, ⟨rfl, .inl ⟨rfl, rfl⟩⟩, by omega, Upd.refl _ _, by simp [Value.ownBlock]⟩
    case round =>
      obtain ⟨k, n, v, rfl, hk, hv, hown, hn, hU, hq⟩ := hrel
      have hv' := hv.symm
      subst hv'
      clear hv
      obtain ⟨A, cap, rfl, hcap1, hcap2⟩ := own_slice hown
      by_cases hlt : k < 8
      · have hr := run_word k hlt
        rw [Hfc.out] at hr
        have hstep : Hid (flagsL f (k + 1) = flagsL f k ++ if anyF f (flagT.getD k (0, [])).1 then [(flagT.getD k (0, [])).2] else []) := hid rfl
        generalize hp : flagT.getD k (0, []) = p at hr hstep
        obtain ⟨fl, wd⟩ := p
        simp only at hr hstep
        clear hp
        have hbb : (bits BinOp.and IntKind.i64 f fl != 0) = anyF f fl := rfl
        have hki : (k : Int) < 8 := by omega
        have hnk : n = (flagsL f k).length := by have := hown.1; simpa using this.symm
        have Hn := hid (show n ≤ k by rw [hnk]; exact (flagsL_le f k).1)
        clear hnk
        cases hb : anyF f fl with
        | true =>
          rw [hb] at hbb hstep
          obtain ⟨lk, hlk⟩ : ∃ lk, (flagsL f k).map strV = lk := ⟨_, rfl⟩
          have Hs2 : Hid ((flagsL f (k + 1)).map strV = lk ++ [.string (bs wd)]) := hid (by rw [hstep.out, ← hlk]; simp [strV])
          rw [hlk] at hown
          clear hb hstep hlk
          go_wp2_with (at_builtin; go_must (refine wpList_append_one _ rfl (.tmp 22) (.tmp 25) 44 rfl 9 i0 _ 1 16 Tryd.underlying44 hi0 qz0 qz1 qz2 rfl (by decide) (by decide) (.slice A n cap) n lk rfl (by exact (hown.alloc _).alloc _) (by omega) (wr.heap.size + 1) 9 #[.string (bs wd)] rfl (by exact Blk.new_at (by simp)) rfl rfl ?_); intro ga capa wa howna hga hata; have hVa := ((hU.alloc (.cells #[.int .i64 fl, .string (bs wd)] 151)).alloc (.cells #[.string (bs wd)] 9)).grown hga (by intro q hq2; right; exact hq q hq2); have hzw : w1.heap.size ≤ wr.heap.size := hU.size)
          go_roundw
          case rel => exact ⟨k + 1, n + 1, _, by go_num, by omega, rfl, by rw [Hs2.out]; exact howna, by have := Hn.out; omega, hVa, by intro q hq2; simp [Value.ownBlock] at hq2; subst hq2; rcases hata with h | h; exact hq _ h; simp at h; omega⟩
          case measure => simp [intOf]; omega
        | false =>
          rw [hb] at hbb hstep
          have hown2 : wr.ownsRow 0 9 1 (.slice A n cap) n ((flagsL f (k + 1)).map strV) := by rw [hstep.out]; simpa using hown
          have Ho2 := hid (hown2.alloc (.cells #[.int .i64 fl, .string (bs wd)] 151))
          have hVa := hU.alloc (.cells #[.int .i64 fl, .string (bs wd)] 151)
          clear hb hstep hown hown2
          go_wp2
          go_roundw
          case rel => exact ⟨k + 1, n, _, by go_num, by omega, rfl, Ho2.out, by have := Hn.out; omega, hVa, hq⟩
          case measure => simp [intOf]; omega
      · obtain rfl : k = 8 := by omega
        go_wp2_with fail
        refine (joinRow_any (.slice A n cap) n (flagsL f 8) _ hown (by have := Ht.out; unfold flagsText at this; omega) (by have := Hl.out.1; omega)).mono ?_
        rintro e w2 ⟨rfl, hU2⟩
        go_wp2
        go_ret2
        exact ⟨rfl, hU1.trans (hU.trans hU2)⟩

end Go.Proofs.YtjjdlgjofjfgmaaDoor
