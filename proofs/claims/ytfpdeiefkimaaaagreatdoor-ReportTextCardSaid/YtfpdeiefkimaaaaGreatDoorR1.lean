/-
  Memory words, more: append of a whole row; a struct written into a row.
-/
import Derived.Test.YtfpdeiefkimaaaaGreatDoorK1
import Derived.Deep.Upon
import Derived.Laws.OwnMore
import Derived.Test.YtfpdeiefkimaaaaGreatDoorProg
import Derived.OwnWalk
import Derived.Deep.QuietTactic
import Derived.BigQuiet
import Derived.WalkLawsBesides
import Derived.WalkSpells
import Derived.Maps.OwnSet
import Derived.Maps.OwnOps
import Derived.Maps.Views
import Derived.Deep.Quiet
import Derived.Lib.SliceRun
set_option linter.unusedSimpArgs false
set_option linter.unusedVariables false
namespace Go.Proofs.YtfpdeiefkimaaaaGreatDoor
open Go.RowKit

theorem run_append_all {P : Program} (w : World) (t ty e : TypeId) (i : TypeInfo) (z : Value) (size bytes : Nat) (ht : P.underlying t = some (.slice e)) (hi : P.info? e = some i) (hz : i.zero = some z)
    (hsize : i.size = size) (hby : i.bytes = bytes) (hzs : z.cells.size = size) (hsz : 0 < size) (base : Nat)
    (v : Value) (n : Nat) (xs : List Value) (hown : w.ownsRow base e size v n xs)
    (A : Option Addr) (m c : Nat) (news : List Value) (hl : news.length = m * size) (hA : news ≠ [] → ∃ ad, A = some ad ∧ ∀ j u, news[j]? = some u → w.cell? (ad.add j) = some u) (h1 : ∀ u ∈ news, u.oneCell' = true)
    (hk : n + m ≤ maxLen) (hb : (n + m) * bytes ≤ 140737488355328) (hbase : base ≤ w.heap.size) :
    ∃ A' cap' w', (Builtin.append_ #[t, t] ty #[v, .slice A m c]).run P w = .ok (.slice A' (n + m) cap') w' ∧ w'.ownsRow base e size (.slice A' (n + m) cap') (n + m) (xs ++ news) ∧ w.grownBy w' v.ownBlock := by
  by_cases hn : news = []
  · subst hn
    obtain rfl : m = 0 := by
      simp only [List.length_nil] at hl
      rcases Nat.eq_zero_or_pos m with h | h
      · exact h
      · have := Nat.mul_pos h hsz
        omega
    obtain ⟨ao, cap, rfl, hcap, -⟩ := own_slice hown
    refine ⟨ao, cap, w, ?_, by simpa using hown, rfl, rfl, rfl, Nat.le_refl _, fun _ _ _ => rfl⟩
    subst hsize
    cases A with
    | none => exact run_append_nothing w t t ty e i ht hi ao n cap hcap _ (Src.ofNil w ht c)
    | some ad => exact run_append_nothing w t t ty e i ht hi ao n cap hcap _ (Src.ofSlice w ht ad 0 c [] (by simp) (by simp) (by simp))
  · obtain ⟨ad, rfl, hc⟩ := hA hn
    obtain ⟨v', w', hr, ho, hg, -⟩ := run_append_own w base t ty e i z size bytes ht hi hz hsize hby hzs hsz v n xs hown ad m c news hl hc h1 hk hb hbase
    obtain ⟨A', cap', rfl, -, -⟩ := own_slice ho
    exact ⟨A', cap', w', hr, ho, hg⟩

theorem wp_append_all {P : Program} (w : World) {o : Oper} {a : Act} {K : Act → World → Prop} {Q : Exit → Act → World → Prop} (s x : Operand) (t : TypeId)
    (ho : o.op = .call { callee := .builtin .append, args := #[s, x], argTypes := #[t, t] })
    (e : TypeId) (i : TypeInfo) (z : Value) (size bytes : Nat) (ht : P.underlying t = some (.slice e)) (hi : P.info? e = some i) (hz : i.zero = some z)
    (hsize : i.size = size) (hby : i.bytes = bytes) (hzs : z.cells.size = size) (hsz : 0 < size) (base : Nat)
    (v : Value) (n : Nat) (xs : List Value) (hs : a.eval s = v) (hown : w.ownsRow base e size v n xs)
    (A : Option Addr) (m c : Nat) (news : List Value) (hx : a.eval x = .slice A m c) (hl : news.length = m * size) (hA : news ≠ [] → ∃ ad, A = some ad ∧ ∀ j u, news[j]? = some u → w.cell? (ad.add j) = some u) (h1 : ∀ u ∈ news, u.oneCell' = true)
    (hk : n + m ≤ maxLen) (hb : (n + m) * bytes ≤ 140737488355328) (hbase : base ≤ w.heap.size)
    (h : ∀ A' cap' w', w'.ownsRow base e size (.slice A' (n + m) cap') (n + m) (xs ++ news) → w.grownBy w' v.ownBlock → K (a.put o.dst (.slice A' (n + m) cap')) w') : o.wp P a w K Q := by
  obtain ⟨A', cap', w', hrun, ho', hg⟩ := run_append_all w t o.type e i z size bytes ht hi hz hsize hby hzs hsz base v n xs hown A m c news hl hA h1 hk hb hbase
  unfold Oper.wp
  simp [execOp, ho, resolve, invoke, builtin, hs, hx, hrun, Result.andThen]
  exact h A' cap' w' ho' hg

theorem wpList_append_all {P : Program} (w : World) {ops : Array Oper} {rest : List Oper} {o : Oper} {a : Act} {Q : Exit → Act → World → Prop} (hgd : o.guard = none) (s x : Operand) (t : TypeId)
    (ho : o.op = .call { callee := .builtin .append, args := #[s, x], argTypes := #[t, t] })
    (e : TypeId) (i : TypeInfo) (z : Value) (size bytes : Nat) (ht : P.underlying t = some (.slice e)) (hi : P.info? e = some i) (hz : i.zero = some z)
    (hsize : i.size = size) (hby : i.bytes = bytes) (hzs : z.cells.size = size) (hsz : 0 < size) (base : Nat)
    (v : Value) (n : Nat) (xs : List Value) (hs : a.eval s = v) (hown : w.ownsRow base e size v n xs)
    (A : Option Addr) (m c : Nat) (news : List Value) (hx : a.eval x = .slice A m c) (hl : news.length = m * size) (hA : news ≠ [] → ∃ ad, A = some ad ∧ ∀ j u, news[j]? = some u → w.cell? (ad.add j) = some u) (h1 : ∀ u ∈ news, u.oneCell' = true)
    (hk : n + m ≤ maxLen) (hb : (n + m) * bytes ≤ 140737488355328) (hbase : base ≤ w.heap.size)
    (h : ∀ A' cap' w', w'.ownsRow base e size (.slice A' (n + m) cap') (n + m) (xs ++ news) → w.grownBy w' v.ownBlock → wpList P ops Q rest (a.put o.dst (.slice A' (n + m) cap')) w') : wpList P ops Q (o :: rest) a w :=
  wpList_plain hgd fun _ hK => wp_append_all w s x t ho e i z size bytes ht hi hz hsize hby hzs hsz base v n xs hs hown A m c news hx hl hA h1 hk hb hbase fun A' cap' w' h2 h3 => hK _ _ (h A' cap' w' h2 h3)

theorem step_append_all {P : Program} (w : World) {ops : Array Oper} {o : Oper} {a : Act} {K : Act → World → Prop} {Q : Exit → Act → World → Prop} {E : Prop} (hgd : o.guard = none) (s x : Operand) (t : TypeId)
    (ho : o.op = .call { callee := .builtin .append, args := #[s, x], argTypes := #[t, t] })
    (e : TypeId) (i : TypeInfo) (z : Value) (size bytes : Nat) (ht : P.underlying t = some (.slice e)) (hi : P.info? e = some i) (hz : i.zero = some z)
    (hsize : i.size = size) (hby : i.bytes = bytes) (hzs : z.cells.size = size) (hsz : 0 < size) (base : Nat)
    (v : Value) (n : Nat) (xs : List Value) (hs : a.eval s = v) (hown : w.ownsRow base e size v n xs)
    (A : Option Addr) (m c : Nat) (news : List Value) (hx : a.eval x = .slice A m c) (hl : news.length = m * size) (hA : news ≠ [] → ∃ ad, A = some ad ∧ ∀ j u, news[j]? = some u → w.cell? (ad.add j) = some u) (h1 : ∀ u ∈ news, u.oneCell' = true)
    (hk : n + m ≤ maxLen) (hb : (n + m) * bytes ≤ 140737488355328) (hbase : base ≤ w.heap.size)
    (h : ∀ A' cap' w', w'.ownsRow base e size (.slice A' (n + m) cap') (n + m) (xs ++ news) → w.grownBy w' v.ownBlock → K (a.put o.dst (.slice A' (n + m) cap')) w') :
    if Region.wanted o (yielded ops a.tmps) = true then Oper.wp P o a w K Q else E := by
  have hw : Region.wanted o (yielded ops a.tmps) = true := by simp [Region.wanted, hgd]
  rw [if_pos hw]
  exact wp_append_all w s x t ho e i z size bytes ht hi hz hsize hby hzs hsz base v n xs hs hown A m c news hx hl hA h1 hk hb hbase h
end Go.Proofs.YtfpdeiefkimaaaaGreatDoor
/-
  Lists of numbers in memory; slices.Index and slices.Contains at numbers, walked.
-/
set_option linter.unusedSimpArgs false
set_option linter.unusedVariables false
namespace Go.Proofs.YtfpdeiefkimaaaaGreatDoor
open Go.RowKit

/-- A slice at A reads as these numbers. -/
def IntsAt (w : World) (A : Option Addr) (l : List Int) : Prop :=
  l ≠ [] → ∃ bk off, A = some ⟨bk, off, none⟩ ∧ bk < w.heap.size ∧ ∀ i (h : i < l.length), w.cell? ⟨bk, off + i, none⟩ = some (.int .i64 l[i])
theorem IntsAt.upd {w w' : World} {A : Option Addr} {l : List Int} (h : IntsAt w A l) (u : Upd w w' []) : IntsAt w' A l := by
  intro hl
  obtain ⟨bk, off, e, hb, hc⟩ := h hl
  refine ⟨bk, off, e, Nat.lt_of_lt_of_le hb u.size, fun i hi => ?_⟩
  rw [World.cell?_of_block (w := w) (w' := w') (a := ⟨bk, off + i, none⟩) (u.block bk hb (by simp))]
  exact hc i hi

set_option maxHeartbeats 2000000 in
set_option maxRecDepth 100000 in
theorem indexI_any (A : Option Addr) (cap : Nat) (l : List Int) (v : Int) (w : World) (hA : IntsAt w A l) (hl : l.length ≤ 1000000) :
    Calls Tryz.prog 121 #[.slice A l.length cap, .int .i64 v] w fun e w' => (∃ r : Int, e = .returned (.int .i64 r) ∧ (0 ≤ r ↔ v ∈ l)) ∧ w' = w := by
  have HA := hid hA
  clear hA
  go_enter Tryz.func121, Tryz.ntmps121
  go_wp2
  go_loopw [8] (fun t wr => ∃ k : Nat, t = .int .i64 k ∧ k ≤ l.length ∧ Hid (∀ i (h : i < l.length), i < k → l[i] ≠ v) ∧ wr = w) (fun t _ => l.length - (intOf t).toNat)
  case atStart => exact ⟨0, rfl, Nat.zero_le _, hid (fun i _ h => absurd h (by omega)), rfl⟩
  case round =>
    obtain ⟨k, rfl, hk, HB, rfl⟩ := hrel
    by_cases hlt : k < l.length
    · obtain ⟨bk, off, rfl, hbk, hc⟩ := HA.out (by rintro rfl; simp at hlt)
      have x := hc k hlt
      obtain ⟨n, hn⟩ : ∃ n, l[k] = n := ⟨_, rfl⟩
      have Hn := hid hn
      rw [hn] at x
      clear hc hn
      by_cases hv : v = n
      · subst hv
        go_wp2
        go_ret
        exact ⟨⟨k, rfl, fun _ => by rw [← Hn.out]; exact List.getElem_mem hlt, fun _ => by omega⟩, rfl⟩
      · have hvb : (v == n) = false := beq_eq_false_iff_ne.2 hv
        go_wp2
        go_roundw
        case rel =>
          refine ⟨k + 1, (by go_num), by omega, hid (fun i hi h => ?_), trivial⟩
          rcases Nat.lt_or_ge i k with h1 | h1
          · exact HB.out i hi h1
          · have : i = k := by omega
            subst this
            rw [Hn.out]
            exact fun e => hv e.symm
        case measure => simp [intOf]; omega
    · obtain rfl : k = l.length := by omega
      go_wp2
      go_ret
      refine ⟨⟨-1, rfl, fun h => absurd h (by omega), fun hm => ?_⟩, rfl⟩
      obtain ⟨i, hi, e⟩ := List.getElem_of_mem hm
      exact absurd e (HB.out i hi hi)
set_option maxHeartbeats 2000000 in
set_option maxRecDepth 100000 in
theorem containsI_any (A : Option Addr) (cap : Nat) (l : List Int) (v : Int) (w : World) (hA : IntsAt w A l) (hl : l.length ≤ 1000000) :
    Calls Tryz.prog 71 #[.slice A l.length cap, .int .i64 v] w fun e w' => e = .returned (.bool (decide (v ∈ l))) ∧ w' = w := by
  have H := hid (indexI_any A cap l v w hA hl)
  clear hA
  go_enter Tryz.func71, Tryz.ntmps71
  go_wp2_with fail
  refine H.out.mono ?_
  rintro e w1 ⟨⟨r, rfl, hr⟩, rfl⟩
  have Hr := hid hr
  clear hr H
  have hd : decide (0 ≤ r) = decide (v ∈ l) := decide_eq_decide.2 Hr.out
  go_wp2
  go_ret
  exact ⟨rfl, rfl⟩
end Go.Proofs.YtfpdeiefkimaaaaGreatDoor
/-
  Layer 6 (hier): a world in memory; Len, at and iface, walked.
-/
set_option linter.unusedSimpArgs false
set_option linter.unusedVariables false
namespace Go.Proofs.YtfpdeiefkimaaaaGreatDoor
open Go.RowKit

/-- The entries of a world by their blocks. -/
def ptrV (g : Nat) : Value := .pointer (some ⟨g, 0, none⟩)
/-- A world at block b: its entries' row, its map. -/
structure WBox (w : World) (b : Nat) (A : Option Addr) (cap : Nat) (m : Value) (gs : List Nat) : Prop where
  blk : Blk w b 77 #[.slice A gs.length cap, m]
  all : w.ownsRow 0 94 1 (.slice A gs.length cap) gs.length (gs.map ptrV)
theorem WBox.upd {w w' : World} {b : Nat} {A : Option Addr} {cap : Nat} {m : Value} {gs : List Nat} (h : WBox w b A cap m gs) (u : Upd w w' []) : WBox w' b A cap m gs := ⟨u.blk h.blk (by simp), u.own h.all (fun _ _ => by simp)⟩

set_option maxRecDepth 100000 in
theorem len_any {w : World} {b : Nat} {A : Option Addr} {cap : Nat} {m : Value} {gs : List Nat} (h : WBox w b A cap m gs) : Calls Tryz.prog 19 #[.pointer (some ⟨b, 0, none⟩)] w fun e w' => e = .returned (.int .i64 gs.length) ∧ w' = w := by
  have x0 := (h.blk.cell 0).trans (show _ = some (.slice A gs.length cap) from rfl)
  go_enter Tryz.func19, Tryz.ntmps19
  go_wp2
  go_ret
  exact ⟨rfl, rfl⟩
/-- The block of a class by its number. -/
def atL (gs : List Nat) (id : Int) : Option Addr := if id < 0 then none else (gs[id.toNat]?).map fun g => ⟨g, 0, none⟩
set_option maxRecDepth 100000 in
theorem at_any {w : World} {b : Nat} {A : Option Addr} {cap : Nat} {m : Value} {gs : List Nat} (h : WBox w b A cap m gs) (id : Int) (hn : gs.length ≤ 1000000) : Calls Tryz.prog 43 #[.pointer (some ⟨b, 0, none⟩), .int .i64 id] w fun e w' => e = .returned (.pointer (atL gs id)) ∧ w' = w := by
  have x0 := (h.blk.cell 0).trans (show _ = some (.slice A gs.length cap) from rfl)
  by_cases h0 : id < 0
  · have hr : atL gs id = none := if_pos h0
    rw [hr]
    go_enter Tryz.func43, Tryz.ntmps43
    go_wp2
    go_ret
    exact ⟨rfl, rfl⟩
  · obtain ⟨k, rfl⟩ : ∃ k : Nat, id = k := ⟨id.toNat, by omega⟩
    by_cases hk : k < gs.length
    · have hr : atL gs k = some ⟨gs[k], 0, none⟩ := by
        unfold atL
        rw [if_neg h0, Int.toNat_natCast, List.getElem?_eq_getElem hk]
        rfl
      rw [hr]
      obtain ⟨g, cap', hv, hc, -, hlt⟩ := own_form h.all (by omega)
      have hall := h.all
      cases hv
      have y0 := hall.cellAt k (by omega)
      rw [List.getElem?_map, List.getElem?_eq_getElem hk] at y0
      have y : w.cell? ⟨g, k, none⟩ = some (.pointer (some ⟨gs[k], 0, none⟩)) := y0
      clear y0
      generalize gs[k] = gk at y ⊢
      clear h hall
      go_enter Tryz.func43, Tryz.ntmps43
      go_wp2
      go_ret
      exact ⟨rfl, rfl⟩
    · have hr : atL gs k = none := by
        unfold atL
        rw [if_neg h0, Int.toNat_natCast, List.getElem?_eq_none (by omega)]
        rfl
      rw [hr]
      go_enter Tryz.func43, Tryz.ntmps43
      go_wp2
      go_ret
      exact ⟨rfl, rfl⟩
set_option maxRecDepth 100000 in
theorem iface_any (a b c d e : Value) (fl : Int) (w : World) : Calls Tryz.prog 75 #[.agg #[a, b, c, .int .i64 fl, d, e]] w fun x w' => x = .returned (.bool (bits BinOp.and .i64 fl 512 != 0)) ∧ Upd w w' [] := by
  have hU := hid (show Upd w (w.alloc (.cells #[a, b, c, .int .i64 fl, d, e] 46)) [] from (Upd.refl _ _).alloc _)
  go_enter Tryz.func75, Tryz.ntmps75
  go_wp2
  go_ret
  exact ⟨rfl, hU.out⟩
end Go.Proofs.YtfpdeiefkimaaaaGreatDoor
/-
  Layer 6 (hier): the names of a world's classes in a map, as a datum: plain laws.
-/
set_option linter.unusedSimpArgs false
set_option linter.unusedVariables false
namespace Go.Proofs.YtfpdeiefkimaaaaGreatDoor
open Go.RowKit Go.WideShapes

/-- A map is asked in a region that draws its order. -/
theorem quiet_lookup_int {P : Program} {C : World → Prop} {o : Oper} {a : Act} {K : Act → Prop} (m x : Operand) (t : TypeId) (hop : o.op = Op.lookup t m x true)
    (k e : TypeId) (q : IntKind) (Ky : Maps.Keyed P k) (ht : P.underlying t = some (.map k e)) (he : P.underlying e = some (.int q)) (hz : ∀ w, C w → (zeroValue e).run P w = .ok (.int q 0) w) (b n : Nat) (D : DataW Unit)
    (hm : a.eval m = .map (some b)) (hown : ∀ w, C w → w.ownsMap P k (plainElem P e) b n D) (key : Value) (kl : Lit) (hx : a.eval x = key) (hkey : keyOf P k key = some kl)
    (c : Int) (hat : D.atKey kl (.lit (.int q 0)) = .lit (.int q c)) (hk : K (a.put o.dst (.tuple #[.int q c, .bool (Maps.has D kl)]))) : o.quiet P a C K := by
  refine ⟨_, fun w hw => ?_, hk⟩
  obtain ⟨v, ps, hrun, hv⟩ := (hown w hw).look_ok Ky ht (hz w hw) (plainElem_int (H := Unit) he (by cases q <;> decide)) hkey
  obtain ⟨c', rfl, hc, -⟩ := plainElem_int_inv he hv
  have h1 := congrArg Prod.fst hc
  simp only at h1
  rw [hat] at h1
  injection h1 with h1
  injection h1 with _ h1
  subst h1
  unfold Oper.quietAt Oper.quietUpon
  simp [execOp, hop, hm, hx, hrun, Result.andThen]

/-! ### The map of names -/
theorem key_lit (x : List UInt8) : WideAt.IsKeyLit (.string x) := trivial
/-- The map D has each name at its number, and no other. -/
structure Names (D : DataW Unit) (l : List (List UInt8)) : Prop where
  map : Maps.IsMap D
  has : ∀ x, Maps.has D (.string x) = decide (x ∈ l)
  at_ : ∀ i (h : i < l.length) (z : DataW Unit), D.atKey (.string l[i]) z = .lit (.int .i64 i)
theorem Names.nil : Names (.map []) [] := ⟨Maps.isMap_empty, fun x => by simp [Maps.has], fun i h => absurd h (by simp)⟩
theorem Names.snoc {D : DataW Unit} {l : List (List UInt8)} (h : Names D l) {x : List UInt8} (hx : x ∉ l) : Names (D.put (.string x) (.lit (.int .i64 l.length))) (l ++ [x]) := by
  refine ⟨h.map.put _ _, fun y => ?_, fun i hi z => ?_⟩
  · by_cases hy : y = x
    · subst hy
      rw [Maps.has_put_same h.map (key_lit y)]
      simp
    · rw [Maps.has_put_other (by simpa using hy), h.has y]
      simp [hy]
  · by_cases hil : i < l.length
    · have hne : l[i] ≠ x := fun e => hx (by rw [← e]; exact List.getElem_mem hil)
      rw [List.getElem_append_left hil, Maps.atKey_put_other (by simpa using hne)]
      exact h.at_ i hil z
    · have : i = l.length := by simp at hi; omega
      subst this
      rw [List.getElem_append_right (Nat.le_refl _)]
      simp only [Nat.sub_self, List.getElem_cons_zero]
      exact Maps.atKey_put_same h.map (key_lit x) _ z

end Go.Proofs.YtfpdeiefkimaaaaGreatDoor
/-
  above at a name that no class has: the map of names is asked; walked.
-/
set_option linter.unusedSimpArgs false
set_option linter.unusedVariables false
namespace Go.Proofs.YtfpdeiefkimaaaaGreatDoor
open Go.RowKit Go.WideShapes Go.Maps Go.WideMaps

theorem keyStr : Keyed Tryz.prog 9 := string_keyed Tryz.underlying9
theorem zeroNum (w : World) : (zeroValue 3).run Tryz.prog w = .ok (.int .i64 0) w := by kernel_rfl
set_option maxHeartbeats 2000000 in
set_option maxRecDepth 100000 in
theorem above_none (b mb n : Nat) (v0 c0 c1 c2 c3 c4 c5 : Value) (D : DataW Unit) (nm : ByteArray) (want : Bool) (w : World) (hb : Blk w b 77 #[v0, .map (some mb)]) (hm : w.ownsMap Tryz.prog 9 (plainElem Tryz.prog 3) mb n D)
    (hn : nm.size ≤ maxLen) (hh : Maps.has D (.string nm.data.toList) = false) :
    Calls Tryz.prog 36 #[.pointer (some ⟨b, 0, none⟩), .agg #[c0, c1, c2, c3, c4, c5], .string nm, .bool want] w fun e w' => e = .returned (.tuple #[.int .i64 0, .int .i64 20]) ∧ Upd w w' [] := by
  have HU := hid (show Upd w (w.alloc (.cells #[c0, c1, c2, c3, c4, c5] 46)) [] from (Upd.refl _ _).alloc _)
  have HM := hid (hm.alloc (.cells #[c0, c1, c2, c3, c4, c5] 46))
  have x1 := ((hb.alloc (.cells #[c0, c1, c2, c3, c4, c5] 46)).cell 1).trans (show _ = some (.map (some mb)) from rfl)
  have HK := hid (keyOf_string_mk Tryz.underlying9 hn)
  have hlt := hb.lt
  clear hm hb hn
  go_enter Tryz.func36, Tryz.ntmps36
  go_wp2_with (at_lookup; (refine wpList_lookup_own_ok_int _ rfl _ _ 74 rfl 9 3 .i64 keyStr Tryz.underlying74 Tryz.underlying3 (zeroNum _) mb n D rfl HM.out _ _ rfl HK.out ?_; rw [hh]; go_loud (intro c hat hwc)))
  exact bodyPost_ret (results_tmp2 rfl _ _ _) rfl ⟨rfl, HU.out⟩
end Go.Proofs.YtfpdeiefkimaaaaGreatDoor
/-
  slices.Clone at the element types of a class: the same cells in memory of the call's own. (Printed by gen_clone.py.)
-/
set_option linter.unusedSimpArgs false
set_option linter.unusedVariables false
namespace Go.Proofs.YtfpdeiefkimaaaaGreatDoor
open Go.RowKit

theorem infoC_ints : (Tryz.prog.info? 3).map (fun i => (i.zero, i.size, i.bytes)) = some (some (.int .i64 0), 1, 8) := by kernel_rfl
set_option maxHeartbeats 2000000 in
set_option maxRecDepth 100000 in
theorem clone_ints (A : Option Addr) (n c : Nat) (xs : List Value) (w : World) (hl : xs.length = n * 1) (hA : xs ≠ [] → ∃ ad, A = some ad ∧ ∀ j u, xs[j]? = some u → w.cell? (ad.add j) = some u) (h1 : ∀ u ∈ xs, u.oneCell' = true) (hn0 : A = none → n = 0) (hb : n * 8 ≤ 140737488355328) :
    Calls Tryz.prog 69 #[.slice A n c] w fun e w' => ∃ A' c', e = .returned (.slice A' n c') ∧ w'.ownsRow w.heap.size 3 1 (.slice A' n c') n xs ∧ Upd w w' [] := by
  obtain ⟨i0, hi0, hz0, hz1, hz2⟩ := info_parts infoC_ints
  have hq := fun (w : World) (a : Option Addr) (n c : Nat) => Go.Lib.run_eql_slice_nil (P := Tryz.prog) w 83 3 a n c 0 0 Tryz.underlying83
  cases A with
  | none =>
    obtain rfl := hn0 rfl
    obtain rfl : xs = [] := List.length_eq_zero_iff.1 (by omega)
    clear hA
    go_enter Tryz.func69, Tryz.ntmps69
    go_wp2
    go_ret
    exact ⟨none, 0, rfl, World.ownsRow_nil _ _ _ _, Upd.refl _ _⟩
  | some ad =>
    have HE := hid (World.ownsRow_lit (e := 3) (size := 1) (base := w.heap.size) w #[] 0 (Nat.le_refl _) (by unfold maxLen; omega) rfl)
    have HS : Hid (xs ≠ [] → ∃ a', some ad = some a' ∧ ∀ j u, xs[j]? = some u → (w.alloc (.cells #[] 3)).cell? (a'.add j) = some u) := hid (fun hne => by
      obtain ⟨a', e, hc⟩ := hA hne
      refine ⟨a', e, fun j u hj => ?_⟩
      have h0 := hc j u hj
      exact (World.cell?_of_block (Below.heap_alloc w _ _ (World.block_lt_of_cell? w _ h0))).trans h0)
    clear hA
    go_enter Tryz.func69, Tryz.ntmps69
    go_wp2_with (at_builtin; (refine wpList_append_all _ rfl (.tmp 5) (.tmp 6) 83 rfl 3 i0 _ 1 8 Tryz.underlying83 hi0 hz0 hz1 hz2 rfl (by decide) w.heap.size (.slice (some ⟨w.heap.size, 0, none⟩) 0 0) 0 [] rfl (by exact HE.out) (some ad) n c xs rfl hl (by exact HS.out) h1 (by unfold maxLen; omega) (by omega) (by simp) ?_; go_loud (intro A' c' w2 hown hg; rw [Nat.zero_add, List.nil_append] at hown; have HO := hid hown; have HU := hid (((Upd.refl w []).alloc (.cells #[] 3)).grown hg (fun k hk => .inr (by simp [Value.ownBlock] at hk; omega))); clear hown hg)))
    go_ret
    exact ⟨A', c', rfl, HO.out, HU.out⟩
theorem infoC_strs : (Tryz.prog.info? 9).map (fun i => (i.zero, i.size, i.bytes)) = some (some (.string ⟨#[]⟩), 1, 16) := by kernel_rfl
set_option maxHeartbeats 2000000 in
set_option maxRecDepth 100000 in
theorem clone_strs (A : Option Addr) (n c : Nat) (xs : List Value) (w : World) (hl : xs.length = n * 1) (hA : xs ≠ [] → ∃ ad, A = some ad ∧ ∀ j u, xs[j]? = some u → w.cell? (ad.add j) = some u) (h1 : ∀ u ∈ xs, u.oneCell' = true) (hn0 : A = none → n = 0) (hb : n * 16 ≤ 140737488355328) :
    Calls Tryz.prog 77 #[.slice A n c] w fun e w' => ∃ A' c', e = .returned (.slice A' n c') ∧ w'.ownsRow w.heap.size 9 1 (.slice A' n c') n xs ∧ Upd w w' [] := by
  obtain ⟨i0, hi0, hz0, hz1, hz2⟩ := info_parts infoC_strs
  have hq := fun (w : World) (a : Option Addr) (n c : Nat) => Go.Lib.run_eql_slice_nil (P := Tryz.prog) w 43 9 a n c 0 0 Tryz.underlying43
  cases A with
  | none =>
    obtain rfl := hn0 rfl
    obtain rfl : xs = [] := List.length_eq_zero_iff.1 (by omega)
    clear hA
    go_enter Tryz.func77, Tryz.ntmps77
    go_wp2
    go_ret
    exact ⟨none, 0, rfl, World.ownsRow_nil _ _ _ _, Upd.refl _ _⟩
  | some ad =>
    have HE := hid (World.ownsRow_lit (e := 9) (size := 1) (base := w.heap.size) w #[] 0 (Nat.le_refl _) (by unfold maxLen; omega) rfl)
    have HS : Hid (xs ≠ [] → ∃ a', some ad = some a' ∧ ∀ j u, xs[j]? = some u → (w.alloc (.cells #[] 9)).cell? (a'.add j) = some u) := hid (fun hne => by
      obtain ⟨a', e, hc⟩ := hA hne
      refine ⟨a', e, fun j u hj => ?_⟩
      have h0 := hc j u hj
      exact (World.cell?_of_block (Below.heap_alloc w _ _ (World.block_lt_of_cell? w _ h0))).trans h0)
    clear hA
    go_enter Tryz.func77, Tryz.ntmps77
    go_wp2_with (at_builtin; (refine wpList_append_all _ rfl (.tmp 5) (.tmp 6) 43 rfl 9 i0 _ 1 16 Tryz.underlying43 hi0 hz0 hz1 hz2 rfl (by decide) w.heap.size (.slice (some ⟨w.heap.size, 0, none⟩) 0 0) 0 [] rfl (by exact HE.out) (some ad) n c xs rfl hl (by exact HS.out) h1 (by unfold maxLen; omega) (by omega) (by simp) ?_; go_loud (intro A' c' w2 hown hg; rw [Nat.zero_add, List.nil_append] at hown; have HO := hid hown; have HU := hid (((Upd.refl w []).alloc (.cells #[] 9)).grown hg (fun k hk => .inr (by simp [Value.ownBlock] at hk; omega))); clear hown hg)))
    go_ret
    exact ⟨A', c', rfl, HO.out, HU.out⟩
theorem infoC_meths : (Tryz.prog.info? 86).map (fun i => (i.zero, i.size, i.bytes)) = some (some (.agg #[.string ⟨#[]⟩, .string ⟨#[]⟩, .int .i64 0, .int .i64 0, .int .i64 0, .slice none 0 0]), 6, 80) := by kernel_rfl
set_option maxHeartbeats 2000000 in
set_option maxRecDepth 100000 in
theorem clone_meths (A : Option Addr) (n c : Nat) (xs : List Value) (w : World) (hl : xs.length = n * 6) (hA : xs ≠ [] → ∃ ad, A = some ad ∧ ∀ j u, xs[j]? = some u → w.cell? (ad.add j) = some u) (h1 : ∀ u ∈ xs, u.oneCell' = true) (hn0 : A = none → n = 0) (hb : n * 80 ≤ 140737488355328) :
    Calls Tryz.prog 78 #[.slice A n c] w fun e w' => ∃ A' c', e = .returned (.slice A' n c') ∧ w'.ownsRow w.heap.size 86 6 (.slice A' n c') n xs ∧ Upd w w' [] := by
  obtain ⟨i0, hi0, hz0, hz1, hz2⟩ := info_parts infoC_meths
  have hq := fun (w : World) (a : Option Addr) (n c : Nat) => Go.Lib.run_eql_slice_nil (P := Tryz.prog) w 44 86 a n c 0 0 Tryz.underlying44
  cases A with
  | none =>
    obtain rfl := hn0 rfl
    obtain rfl : xs = [] := List.length_eq_zero_iff.1 (by omega)
    clear hA
    go_enter Tryz.func78, Tryz.ntmps78
    go_wp2
    go_ret
    exact ⟨none, 0, rfl, World.ownsRow_nil _ _ _ _, Upd.refl _ _⟩
  | some ad =>
    have HE := hid (World.ownsRow_lit (e := 86) (size := 6) (base := w.heap.size) w #[] 0 (Nat.le_refl _) (by unfold maxLen; omega) rfl)
    have HS : Hid (xs ≠ [] → ∃ a', some ad = some a' ∧ ∀ j u, xs[j]? = some u → (w.alloc (.cells #[] 86)).cell? (a'.add j) = some u) := hid (fun hne => by
      obtain ⟨a', e, hc⟩ := hA hne
      refine ⟨a', e, fun j u hj => ?_⟩
      have h0 := hc j u hj
      exact (World.cell?_of_block (Below.heap_alloc w _ _ (World.block_lt_of_cell? w _ h0))).trans h0)
    clear hA
    go_enter Tryz.func78, Tryz.ntmps78
    go_wp2_with (at_builtin; (refine wpList_append_all _ rfl (.tmp 5) (.tmp 6) 44 rfl 86 i0 _ 6 80 Tryz.underlying44 hi0 hz0 hz1 hz2 rfl (by decide) w.heap.size (.slice (some ⟨w.heap.size, 0, none⟩) 0 0) 0 [] rfl (by exact HE.out) (some ad) n c xs rfl hl (by exact HS.out) h1 (by unfold maxLen; omega) (by omega) (by simp) ?_; go_loud (intro A' c' w2 hown hg; rw [Nat.zero_add, List.nil_append] at hown; have HO := hid hown; have HU := hid (((Upd.refl w []).alloc (.cells #[] 86)).grown hg (fun k hk => .inr (by simp [Value.ownBlock] at hk; omega))); clear hown hg)))
    go_ret
    exact ⟨A', c', rfl, HO.out, HU.out⟩
theorem infoC_insts : (Tryz.prog.info? 90).map (fun i => (i.zero, i.size, i.bytes)) = some (some (.agg #[.int .i64 0, .int .i64 0, .string ⟨#[]⟩, .bool false, .string ⟨#[]⟩, .string ⟨#[]⟩, .string ⟨#[]⟩]), 7, 88) := by kernel_rfl
set_option maxHeartbeats 2000000 in
set_option maxRecDepth 100000 in
theorem clone_insts (A : Option Addr) (n c : Nat) (xs : List Value) (w : World) (hl : xs.length = n * 7) (hA : xs ≠ [] → ∃ ad, A = some ad ∧ ∀ j u, xs[j]? = some u → w.cell? (ad.add j) = some u) (h1 : ∀ u ∈ xs, u.oneCell' = true) (hn0 : A = none → n = 0) (hb : n * 88 ≤ 140737488355328) :
    Calls Tryz.prog 79 #[.slice A n c] w fun e w' => ∃ A' c', e = .returned (.slice A' n c') ∧ w'.ownsRow w.heap.size 90 7 (.slice A' n c') n xs ∧ Upd w w' [] := by
  obtain ⟨i0, hi0, hz0, hz1, hz2⟩ := info_parts infoC_insts
  have hq := fun (w : World) (a : Option Addr) (n c : Nat) => Go.Lib.run_eql_slice_nil (P := Tryz.prog) w 84 90 a n c 0 0 Tryz.underlying84
  cases A with
  | none =>
    obtain rfl := hn0 rfl
    obtain rfl : xs = [] := List.length_eq_zero_iff.1 (by omega)
    clear hA
    go_enter Tryz.func79, Tryz.ntmps79
    go_wp2
    go_ret
    exact ⟨none, 0, rfl, World.ownsRow_nil _ _ _ _, Upd.refl _ _⟩
  | some ad =>
    have HE := hid (World.ownsRow_lit (e := 90) (size := 7) (base := w.heap.size) w #[] 0 (Nat.le_refl _) (by unfold maxLen; omega) rfl)
    have HS : Hid (xs ≠ [] → ∃ a', some ad = some a' ∧ ∀ j u, xs[j]? = some u → (w.alloc (.cells #[] 90)).cell? (a'.add j) = some u) := hid (fun hne => by
      obtain ⟨a', e, hc⟩ := hA hne
      refine ⟨a', e, fun j u hj => ?_⟩
      have h0 := hc j u hj
      exact (World.cell?_of_block (Below.heap_alloc w _ _ (World.block_lt_of_cell? w _ h0))).trans h0)
    clear hA
    go_enter Tryz.func79, Tryz.ntmps79
    go_wp2_with (at_builtin; (refine wpList_append_all _ rfl (.tmp 5) (.tmp 6) 84 rfl 90 i0 _ 7 88 Tryz.underlying84 hi0 hz0 hz1 hz2 rfl (by decide) w.heap.size (.slice (some ⟨w.heap.size, 0, none⟩) 0 0) 0 [] rfl (by exact HE.out) (some ad) n c xs rfl hl (by exact HS.out) h1 (by unfold maxLen; omega) (by omega) (by simp) ?_; go_loud (intro A' c' w2 hown hg; rw [Nat.zero_add, List.nil_append] at hown; have HO := hid hown; have HU := hid (((Upd.refl w []).alloc (.cells #[] 90)).grown hg (fun k hk => .inr (by simp [Value.ownBlock] at hk; omega))); clear hown hg)))
    go_ret
    exact ⟨A', c', rfl, HO.out, HU.out⟩
end Go.Proofs.YtfpdeiefkimaaaaGreatDoor
