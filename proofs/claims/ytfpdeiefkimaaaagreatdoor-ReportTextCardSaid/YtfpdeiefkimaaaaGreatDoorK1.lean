/-
  Memory words: blocks that are known whole, what of the memory has turned, append of one element. No program text.
-/
import Derived.Below
import Derived.BigQuiet
import Derived.Deep.AppendLies
import Derived.Deep.Draws
import Derived.Deep.QuietTactic
import Derived.Laws.OwnMore
import Derived.Lib.IndexMore
import Derived.Lib.Split
import Derived.Maps.AppendAt
import Derived.OneCell
import Derived.Test.YtfpdeiefkimaaaaGreatDoorRows
import Derived.Test.YtfpdeiefkimaaaaGreatDoorShelf
import Derived.WalkKit
import Derived.WalkLawsBesides
import Derived.WalkSmall
import Derived.WalkSpells
set_option linter.unusedSimpArgs false
set_option linter.unusedVariables false
namespace Go.Proofs.YtfpdeiefkimaaaaGreatDoor
open Go.RowKit

theorem hid {p : Prop} (h : p) : Hid p := h

/-- Block g is just these cells of this type, none frozen. -/
def Blk (w : World) (g : Nat) (t : TypeId) (cs : Array Value) : Prop := w.heap[g]? = some (.cells cs t (0, 0))

section
variable {w w' : World} {g : Nat} {t : TypeId} {cs : Array Value}
theorem Blk.lt (h : Blk w g t cs) : g < w.heap.size := by
  rcases Nat.lt_or_ge g w.heap.size with hlt | hge
  · exact hlt
  · unfold Blk at h; rw [Array.getElem?_eq_none hge] at h; cases h
theorem Blk.cell (h : Blk w g t cs) (i : Nat) : w.cell? ⟨g, i, none⟩ = cs[i]? := cell_of_row w g i cs t (0, 0) h
theorem Blk.frozen (h : Blk w g t cs) (i : Nat) : w.frozen? ⟨g, i, none⟩ = false := by
  unfold Blk at h
  simp [World.frozen?, h]
theorem Blk.new (w : World) (t : TypeId) (cs : Array Value) : Blk (w.alloc (.cells cs t)) w.heap.size t cs := heap_alloc_new w _
theorem Blk.new_at {w : World} {t : TypeId} {cs : Array Value} {g : Nat} (hg : g = w.heap.size) : Blk (w.alloc (.cells cs t)) g t cs := by subst hg; exact Blk.new w t cs
theorem Blk.alloc (h : Blk w g t cs) (o : Obj) : Blk (w.alloc o) g t cs := (Below.heap_alloc w o g h.lt).trans h
theorem Blk.drewN (h : Blk w g t cs) (n : Nat) : Blk (w.drewN n) g t cs := h
theorem Blk.set_ (h : Blk w g t cs) (i : Nat) (u : Value) : Blk (w.setCell ⟨g, i, none⟩ u) g t (cs.setIfInBounds i u) := by
  unfold Blk at h ⊢
  simp [World.setCell, Array.getElem?_modify, h]
theorem Blk.far (h : Blk w g t cs) {p : Addr} (hp : g ≠ p.block) (u : Value) : Blk (w.setCell p u) g t cs := (Below.heap_setCell w p u g hp).trans h
theorem Blk.grown {row : Option Nat} (h : Blk w g t cs) (hb : w.grownBy w' row) (hg : some g ≠ row) : Blk w' g t cs := (hb.block g h.lt hg).trans h
theorem Blk.ne_ {g' : Nat} {t' : TypeId} {cs' : Array Value} (h : Blk w g t cs) (h' : Blk w g' t' cs') (hne : t ≠ t') : g ≠ g' := by
  rintro rfl
  unfold Blk at h h'
  rw [h] at h'
  injection h' with h'
  injection h' with _ ht
  exact hne ht
theorem own_blk_ne {base : Nat} {e : TypeId} {size n : Nat} {v : Value} {xs : List Value} (h : w.ownsRow base e size v n xs) (hg : Blk w g t cs) (hne : e ≠ t) : v.ownBlock ≠ some g := by
  rcases h.2 with ⟨rfl, _⟩ | ⟨g', cap, cur, rfl, _, hh, _⟩
  · simp [Value.ownBlock]
  · intro he
    have : g' = g := by simpa [Value.ownBlock] using he
    subst this
    exact Blk.ne_ (t := e) hh hg hne rfl
theorem own_own_ne {base base' : Nat} {e e' : TypeId} {size n size' n' k : Nat} {v v' : Value} {xs xs' : List Value} (h : w.ownsRow base e size v n xs) (h' : w.ownsRow base' e' size' v' n' xs') (hne : e ≠ e') (hk : v.ownBlock = some k) : v'.ownBlock ≠ some k := by
  rcases h.2 with ⟨rfl, _⟩ | ⟨g', cap, cur, rfl, _, hh, _⟩
  · simp [Value.ownBlock] at hk
  · have : g' = k := by simpa [Value.ownBlock] using hk
    subst this
    exact own_blk_ne h' (t := e) hh (Ne.symm hne)
theorem Blk.grown_own {base : Nat} {e : TypeId} {size n : Nat} {v : Value} {xs : List Value} (h : Blk w g t cs) (hb : w.grownBy w' v.ownBlock) (ho : w.ownsRow base e size v n xs) (hne : e ≠ t) : Blk w' g t cs :=
  h.grown hb fun x => own_blk_ne ho h hne x.symm
theorem own_grown_own {base base' : Nat} {e e' : TypeId} {size n size' n' : Nat} {v v' : Value} {xs xs' : List Value} (h : w.ownsRow base e size v n xs) (hb : w.grownBy w' v'.ownBlock) (ho : w.ownsRow base' e' size' v' n' xs') (hne : e ≠ e') : w'.ownsRow base e size v n xs := by
  refine h.kept hb ?_
  cases hv : v.ownBlock with
  | none => exact .inl rfl
  | some k => exact .inr fun x => own_own_ne h ho hne hv x.symm
end

/-- What of the memory has turned: at most the blocks of F, and new ones. -/
structure Upd (w w' : World) (F : List Nat) : Prop where
  os : w'.os = w.os
  tape : w'.tape = w.tape
  output : w'.output = w.output
  size : w.heap.size ≤ w'.heap.size
  block : ∀ b, b < w.heap.size → b ∉ F → w'.heap[b]? = w.heap[b]?

def Value.ob (v : Value) : List Nat := v.ownBlock.toList
theorem mem_ob {v : Value} {k : Nat} : k ∈ Value.ob v ↔ v.ownBlock = some k := by
  unfold Value.ob
  cases v.ownBlock <;> simp [eq_comm]

theorem Upd.refl (w : World) (F : List Nat) : Upd w w F := ⟨rfl, rfl, rfl, Nat.le_refl _, fun _ _ _ => rfl⟩
theorem Upd.trans {a b c : World} {F : List Nat} (h : Upd a b F) (k : Upd b c F) : Upd a c F :=
  ⟨k.os.trans h.os, k.tape.trans h.tape, k.output.trans h.output, Nat.le_trans h.size k.size,
   fun x hx hF => (k.block x (Nat.lt_of_lt_of_le hx h.size) hF).trans (h.block x hx hF)⟩
theorem Upd.mono {w w' : World} {F F' : List Nat} (h : Upd w w' F) (hF : ∀ b, b ∈ F → b ∈ F') : Upd w w' F' :=
  ⟨h.os, h.tape, h.output, h.size, fun b hb hn => h.block b hb fun hm => hn (hF b hm)⟩
theorem Upd.of_below {w w' : World} (h : Below w.heap.size w w') (F : List Nat) : Upd w w' F := ⟨h.os, h.tape, h.output, h.size, fun b hb _ => h.block b hb⟩
theorem Upd.below {w w' : World} (h : Upd w w' []) : Below w.heap.size w w' := ⟨h.os, h.tape, h.output, h.size, fun b hb => h.block b hb (by simp)⟩
theorem Upd.drew {a w : World} {F : List Nat} (h : Upd a w F) : Upd a w.drew F := ⟨h.os, h.tape, h.output, h.size, h.block⟩
theorem Upd.drewN {a w : World} {F : List Nat} (h : Upd a w F) (n : Nat) : Upd a (w.drewN n) F := ⟨h.os, h.tape, h.output, h.size, h.block⟩
theorem Upd.alloc {a w : World} {F : List Nat} (h : Upd a w F) (o : Obj) : Upd a (w.alloc o) F :=
  ⟨h.os, h.tape, h.output, Nat.le_trans h.size (by simp), fun b hb hn => (Below.heap_alloc w o b (Nat.lt_of_lt_of_le hb h.size)).trans (h.block b hb hn)⟩
theorem Upd.setCell {a w : World} {F : List Nat} (h : Upd a w F) {p : Addr} (hp : p.block ∈ F ∨ a.heap.size ≤ p.block) (u : Value) : Upd a (w.setCell p u) F :=
  ⟨h.os, h.tape, h.output, by simpa [World.setCell] using h.size, fun b hb hn => (Below.heap_setCell w p u b (by
    rintro rfl
    rcases hp with hp | hp
    · exact hn hp
    · omega)).trans (h.block b hb hn)⟩
theorem Upd.grown {a w w' : World} {F : List Nat} {row : Option Nat} (h : Upd a w F) (hg : w.grownBy w' row) (hr : ∀ k, row = some k → k ∈ F ∨ a.heap.size ≤ k) : Upd a w' F :=
  ⟨hg.os.trans h.os, hg.tape.trans h.tape, hg.output.trans h.output, Nat.le_trans h.size hg.size, fun b hb hn => (hg.block b (Nat.lt_of_lt_of_le hb h.size) (fun e => by
    rcases hr b e.symm with h1 | h1
    · exact hn h1
    · omega)).trans (h.block b hb hn)⟩
theorem Upd.blk {w w' : World} {F : List Nat} (h : Upd w w' F) {g : Nat} {t : TypeId} {cs : Array Value} (hb : Blk w g t cs) (hg : g ∉ F) : Blk w' g t cs := (h.block g hb.lt hg).trans hb
theorem Upd.own {w w' : World} {F : List Nat} (h : Upd w w' F) {base : Nat} {e : TypeId} {size n : Nat} {v : Value} {xs : List Value} (ho : w.ownsRow base e size v n xs) (hv : ∀ k, k ∈ Value.ob v → k ∉ F) : w'.ownsRow base e size v n xs := by
  refine ⟨ho.1, ?_⟩
  rcases ho.2 with hn | ⟨g, cap, cur, rfl, hb, hgg, rest⟩
  · exact .inl hn
  · refine .inr ⟨g, cap, cur, rfl, hb, ?_, rest⟩
    rw [h.block g (Array.getElem?_eq_some_iff.1 hgg).1 (hv g (mem_ob.2 rfl))]
    exact hgg

/-- The value of a row that holds something. -/
theorem own_form {w : World} {base : Nat} {e : TypeId} {size n : Nat} {v : Value} {xs : List Value} (h : w.ownsRow base e size v n xs) (hn : 0 < n) :
    ∃ g cap, v = .slice (some ⟨g, 0, none⟩) n cap ∧ n ≤ cap ∧ cap ≤ maxLen ∧ g < w.heap.size := by
  rcases h.2 with ⟨_, h0⟩ | ⟨g, cap, cur, hv, hb, hg, h1, h2, _⟩
  · omega
  · exact ⟨g, cap, hv, h1, h2, (Array.getElem?_eq_some_iff.1 hg).1⟩
theorem own_slice {w : World} {base : Nat} {e : TypeId} {size n : Nat} {v : Value} {xs : List Value} (h : w.ownsRow base e size v n xs) :
    ∃ A cap, v = .slice A n cap ∧ n ≤ cap ∧ cap ≤ maxLen := by
  rcases h.2 with ⟨h1, h0⟩ | ⟨g, cap, cur, hv, hb, hg, h1, h2, _⟩
  · subst h0; exact ⟨none, 0, h1, by omega, by unfold maxLen; omega⟩
  · exact ⟨_, cap, hv, h1, h2⟩

/-- append of one element that lies in a block of its own, onto a row of the call's own. -/
theorem wp_append_one {P : Program} (w : World) {o : Oper} {a : Act} {K : Act → World → Prop} {Q : Exit → Act → World → Prop} (s x : Operand) (t : TypeId)
    (ho : o.op = .call { callee := .builtin .append, args := #[s, x], argTypes := #[t, t] })
    (e : TypeId) (i : TypeInfo) (z : Value) (size bytes : Nat) (ht : P.underlying t = some (.slice e)) (hi : P.info? e = some i) (hz : i.zero = some z)
    (hsize : i.size = size) (hby : i.bytes = bytes) (hzs : z.cells.size = size) (hsz : 0 < size) (hsb : bytes ≤ 1000)
    (v : Value) (n : Nat) (xs : List Value) (hs : a.eval s = v) (hown : w.ownsRow 0 e size v n xs) (hn : n ≤ 100000000000)
    (g : Nat) (te : TypeId) (cs : Array Value) (hx : a.eval x = .slice (some ⟨g, 0, none⟩) 1 1) (hb : Blk w g te cs) (hl : cs.size = size) (h1 : cs.toList.all Value.oneCell' = true)
    (h : ∀ g' cap' w', w'.ownsRow 0 e size (.slice (some ⟨g', 0, none⟩) (n + 1) cap') (n + 1) (xs ++ cs.toList) → w.grownBy w' v.ownBlock → (v.ownBlock = some g' ∨ g' = w.heap.size) →
      K (a.put o.dst (.slice (some ⟨g', 0, none⟩) (n + 1) cap')) w') : o.wp P a w K Q := by
  obtain ⟨v', w', hr, h2, h3, _, h5⟩ := run_append_own_at (P := P) w 0 t o.type e i z size bytes ht hi hz hsize hby hzs hsz v n xs hown ⟨g, 0, none⟩ 1 1 cs.toList (by simp [hl])
    (fun j u hu => by
      have hadd : (⟨g, 0, none⟩ : Addr).add j = ⟨g, j, none⟩ := by unfold Addr.add; split <;> simp_all
      rw [hadd, hb.cell]; simpa using hu)
    (fun u hu => List.all_eq_true.1 h1 u hu) (by unfold maxLen; omega)
    (by have : (n + 1) * bytes ≤ (n + 1) * 1000 := Nat.mul_le_mul_left _ hsb; omega) (Nat.zero_le _)
  obtain ⟨g', cap', rfl, _⟩ := own_form h2 (by omega)
  unfold Oper.wp execOp
  simp only [ho, resolve, invoke, builtin, Sem.run_bind, Sem.run_pure, Result.andThen_ok, List.map_toArray, List.map_cons, List.map_nil, hs, hx, hr]
  exact h g' cap' w' h2 h3 (by
    rcases h5 with h5 | h5
    · exact .inl h5.symm
    · right; simpa [Value.ownBlock] using h5)

theorem step_append_one {P : Program} (w : World) {ops : Array Oper} {o : Oper} {a : Act} {K : Act → World → Prop} {Q : Exit → Act → World → Prop} {E : Prop} (hgd : o.guard = none) (s x : Operand) (t : TypeId)
    (ho : o.op = .call { callee := .builtin .append, args := #[s, x], argTypes := #[t, t] })
    (e : TypeId) (i : TypeInfo) (z : Value) (size bytes : Nat) (ht : P.underlying t = some (.slice e)) (hi : P.info? e = some i) (hz : i.zero = some z)
    (hsize : i.size = size) (hby : i.bytes = bytes) (hzs : z.cells.size = size) (hsz : 0 < size) (hsb : bytes ≤ 1000)
    (v : Value) (n : Nat) (xs : List Value) (hs : a.eval s = v) (hown : w.ownsRow 0 e size v n xs) (hn : n ≤ 100000000000)
    (g : Nat) (te : TypeId) (cs : Array Value) (hx : a.eval x = .slice (some ⟨g, 0, none⟩) 1 1) (hb : Blk w g te cs) (hl : cs.size = size) (h1 : cs.toList.all Value.oneCell' = true)
    (h : ∀ g' cap' w', w'.ownsRow 0 e size (.slice (some ⟨g', 0, none⟩) (n + 1) cap') (n + 1) (xs ++ cs.toList) → w.grownBy w' v.ownBlock → (v.ownBlock = some g' ∨ g' = w.heap.size) →
      K (a.put o.dst (.slice (some ⟨g', 0, none⟩) (n + 1) cap')) w') :
    if Region.wanted o (yielded ops a.tmps) = true then Oper.wp P o a w K Q else E := by
  have hw : Region.wanted o (yielded ops a.tmps) = true := by simp [Region.wanted, hgd]
  rw [if_pos hw]
  exact wp_append_one w s x t ho e i z size bytes ht hi hz hsize hby hzs hsz hsb v n xs hs hown hn g te cs hx hb hl h1 h

theorem wpList_append_one {P : Program} (w : World) {ops : Array Oper} {rest : List Oper} {o : Oper} {a : Act} {Q : Exit → Act → World → Prop} (hgd : o.guard = none) (s x : Operand) (t : TypeId)
    (ho : o.op = .call { callee := .builtin .append, args := #[s, x], argTypes := #[t, t] })
    (e : TypeId) (i : TypeInfo) (z : Value) (size bytes : Nat) (ht : P.underlying t = some (.slice e)) (hi : P.info? e = some i) (hz : i.zero = some z)
    (hsize : i.size = size) (hby : i.bytes = bytes) (hzs : z.cells.size = size) (hsz : 0 < size) (hsb : bytes ≤ 1000)
    (v : Value) (n : Nat) (xs : List Value) (hs : a.eval s = v) (hown : w.ownsRow 0 e size v n xs) (hn : n ≤ 100000000000)
    (g : Nat) (te : TypeId) (cs : Array Value) (hx : a.eval x = .slice (some ⟨g, 0, none⟩) 1 1) (hb : Blk w g te cs) (hl : cs.size = size) (h1 : cs.toList.all Value.oneCell' = true)
    (h : ∀ g' cap' w', w'.ownsRow 0 e size (.slice (some ⟨g', 0, none⟩) (n + 1) cap') (n + 1) (xs ++ cs.toList) → w.grownBy w' v.ownBlock → (v.ownBlock = some g' ∨ g' = w.heap.size) →
      wpList P ops Q rest (a.put o.dst (.slice (some ⟨g', 0, none⟩) (n + 1) cap')) w') : wpList P ops Q (o :: rest) a w :=
  wpList_plain hgd fun _ hK => wp_append_one w s x t ho e i z size bytes ht hi hz hsize hby hzs hsz hsb v n xs hs hown hn g te cs hx hb hl h1 fun g' cap' w' h2 h3 h4 => hK _ _ (h g' cap' w' h2 h3 h4)

/-- A shorter piece of a row. -/
theorem own_cut {w : World} {base : Nat} {e : TypeId} {size n cap g : Nat} {xs : List Value} (h : w.ownsRow base e size (.slice (some ⟨g, 0, none⟩) n cap) n xs) (m : Nat) (hm : m ≤ n) :
    w.ownsRow base e size (.slice (some ⟨g, 0, none⟩) m cap) m (xs.take (m * size)) := by
  have hmn : m * size ≤ n * size := Nat.mul_le_mul_right _ hm
  refine ⟨by rw [List.length_take, h.1]; omega, ?_⟩
  rcases h.2 with ⟨h1, _⟩ | ⟨g', cap', cur, hv, hb, hg, h1, h2, h3, h4⟩
  · cases h1
  · injection hv with hv1 hv2 hv3
    injection hv1 with hv1
    injection hv1 with hv1
    subst hv1 hv3
    exact .inr ⟨g, cap, cur, rfl, hb, hg, by omega, h2, h3, by rw [← h4, List.take_take, Nat.min_eq_left hmn]⟩

end Go.Proofs.YtfpdeiefkimaaaaGreatDoor
/-
  Package names, walked: what a name is made of, on lists of bytes.
-/
set_option linter.unusedSimpArgs false
set_option linter.unusedVariables false
namespace Go.Proofs.YtfpdeiefkimaaaaGreatDoor
open Go.RowKit

def letterB (c : Nat) : Bool := decide (97 ≤ c ∧ c ≤ 122) || decide (65 ≤ c ∧ c ≤ 90) || decide (c = 95) || decide (c = 36)
def digitB (c : Nat) : Bool := decide (48 ≤ c ∧ c ≤ 57)
def charB (c : Nat) (first : Bool) : Bool := letterB c || (!first && digitB c)

theorem bool_ret {a b : Bool} (h : a = b) : Ending.returned (.bool a) = .returned (.bool b) := by rw [h]

set_option maxHeartbeats 800000 in
theorem letter_any (c : Nat) (first : Bool) (w : World) (hc : c < 256) : Calls Tryz.prog 202 #[.int .u8 c, .bool first] w fun e w' => e = .returned (.bool (charB c first)) ∧ w = w' := by
  cases first
  all_goals
    go_enter Tryz.func202, Tryz.ntmps202
    go_wp2
    all_goals go_ret
    all_goals refine ⟨bool_ret ?_, rfl⟩
    all_goals
      rw [Bool.eq_iff_iff]
      simp [charB, letterB, digitB, beq_eq_false_iff_ne] at *
      try omega

/-- A part of a name, on its bytes. -/
def partFrom : Nat → List UInt8 → Bool
  | _, [] => true
  | i, c :: t => charB c.toNat (i == 0) && partFrom (i + 1) t
def partB (l : List UInt8) : Bool := partFrom 0 l && !l.isEmpty

theorem bytes_get (s : ByteArray) (i : Nat) (h : i < s.size) : s.data.toList[i]? = some s[i] := by
  simp [ByteArray.getElem_eq_getElem_data, h]
theorem partFrom_drop (l : List UInt8) (i : Nat) (h : i < l.length) : partFrom i (l.drop i) = (charB l[i].toNat (i == 0) && partFrom (i + 1) (l.drop (i + 1))) := by
  rw [List.drop_eq_getElem_cons h]
  rfl

set_option maxHeartbeats 800000 in
theorem part_any (s : ByteArray) (w : World) (hs : s.size ≤ 9223372036854775807) : Calls Tryz.prog 168 #[.string s] w fun e w' => e = .returned (.bool (partB s.data.toList)) ∧ w = w' := by
  go_enter Tryz.func168, Tryz.ntmps168
  go_wp2
  go_loop [6] (fun t => ∃ k : Nat, k ≤ s.size ∧ t = .int .i64 k ∧ Hid (partFrom 0 s.data.toList = partFrom k (s.data.toList.drop k))) (fun t => s.size - (intOf t).toNat)
  case atStart => exact ⟨0, Nat.zero_le _, rfl, hid rfl⟩
  case round =>
    obtain ⟨k, hk, rfl, hp⟩ := hrel
    by_cases hlt : k < s.size
    · have hl : k < s.data.toList.length := by simpa using hlt
      have hq := hid (partFrom_drop s.data.toList k hl)
      have hc := letter_any (s[k]'hlt).toNat ((k : Int) == 0) w (by have := (s[k]'hlt).toNat_lt; omega)
      have eb : charB (s[k]'hlt).toNat ((k : Int) == 0) = charB (s.data.toList[k]'hl).toNat (k == 0) := by
        congr 1
        rw [Bool.eq_iff_iff]
        simp
      rw [eb] at hc
      obtain ⟨b, hb⟩ : ∃ b : Bool, charB (s.data.toList[k]'hl).toNat (k == 0) = b := ⟨_, rfl⟩
      rw [hb] at hc
      have Hc := hid hc
      have Hb := hid hb
      clear hc eb hb
      cases b with
      | true =>
        go_wp2_with fail
        refine Hc.out.mono ?_
        rintro e w1 ⟨rfl, rfl⟩
        go_wp2
        go_round
        case rel => exact ⟨k + 1, by omega, by go_num, hid (by rw [hp.out, hq.out, Hb.out]; rfl)⟩
        case measure => simp [intOf]; omega
      | false =>
        go_wp2_with fail
        refine Hc.out.mono ?_
        rintro e w1 ⟨rfl, rfl⟩
        go_wp2
        go_ret
        exact ⟨bool_ret (by unfold partB; rw [hp.out, hq.out, Hb.out]; rfl), rfl⟩
    · obtain rfl : k = s.size := by omega
      go_wp2
      go_ret
      refine ⟨bool_ret ?_, rfl⟩
      unfold partB
      rw [hp.out, List.drop_of_length_le (by simp)]
      show (!s.toList.isEmpty) = (true && !s.data.toList.isEmpty)
      rw [ByteArray.toList_eq, Bool.true_and]
end Go.Proofs.YtfpdeiefkimaaaaGreatDoor
/-
  Lists of bytes cut at one byte. No program text.
-/
set_option linter.unusedSimpArgs false
set_option linter.unusedVariables false
namespace Go.Proofs.YtfpdeiefkimaaaaGreatDoor

/-- A text cut at each byte c. -/
def splitL (c : UInt8) : List UInt8 → List (List UInt8)
  | [] => [[]]
  | x :: t => if x == c then [] :: splitL c t else (x :: (splitL c t).headD []) :: (splitL c t).tail

theorem splitL_ne (c : UInt8) (l : List UInt8) : splitL c l ≠ [] := by
  cases l with
  | nil => simp [splitL]
  | cons x t => unfold splitL; split <;> simp
theorem splitL_none (c : UInt8) (l : List UInt8) (h : c ∉ l) : splitL c l = [l] := by
  induction l with
  | nil => rfl
  | cons x t ih =>
    simp only [List.mem_cons, not_or] at h
    unfold splitL
    rw [if_neg (by simpa using fun e => h.1 e.symm), ih h.2]
    rfl
theorem splitL_cut (c : UInt8) (a b : List UInt8) (h : c ∉ a) : splitL c (a ++ c :: b) = a :: splitL c b := by
  induction a with
  | nil => simp [splitL]
  | cons x t ih =>
    simp only [List.mem_cons, not_or] at h
    have hx : (x == c) = false := by simpa using fun e => h.1 (Eq.symm e)
    have e : splitL c ((x :: t) ++ c :: b) = (x :: (splitL c (t ++ c :: b)).headD []) :: (splitL c (t ++ c :: b)).tail := by
      rw [List.cons_append, splitL, hx]
      rfl
    rw [e, ih h.2]
    rfl
theorem index_one (c : UInt8) (s : List UInt8) : (Lib.index s [c] = -1 ∧ c ∉ s) ∨ ∃ a b, s = a ++ c :: b ∧ c ∉ a ∧ Lib.index s [c] = a.length := by
  induction s with
  | nil => exact .inl ⟨rfl, by simp⟩
  | cons x t ih =>
    by_cases hx : x = c
    · subst hx
      exact .inr ⟨[], t, rfl, by simp, by simp [Lib.index]⟩
    · have hx' : ¬ c = x := fun e => hx (Eq.symm e)
      have hp : ([c] : List UInt8).isPrefixOf (x :: t) = false := by simp [List.isPrefixOf, hx']
      rcases ih with ⟨h1, h2⟩ | ⟨a, b, rfl, h2, h3⟩
      · left
        refine ⟨?_, by simp [h2, hx']⟩
        unfold Lib.index
        rw [hp, h1]
        rfl
      · right
        refine ⟨x :: a, b, rfl, by simp [h2, hx'], ?_⟩
        unfold Lib.index
        rw [hp, h3]
        have : ((a.length : Int) == -1) = false := by simp
        simp [this]
theorem splitK_one (c : UInt8) : ∀ (n : Nat) (s : List UInt8), s.count c ≤ n → Lib.splitK [c] 0 n s = splitL c s := by
  intro n
  induction n with
  | zero =>
    intro s h
    rw [splitL_none c s (List.count_eq_zero.1 (by omega))]
    rfl
  | succ n ih =>
    intro s h
    unfold Lib.splitK
    rcases index_one c s with ⟨h1, h2⟩ | ⟨a, b, rfl, h2, h3⟩
    · rw [h1, splitL_none c s h2]; rfl
    · rw [h3, splitL_cut c a b h2]
      have h4 : ((a.length : Int) == -1) = false := by simp
      rw [h4]
      have h5 : List.count c a = 0 := List.count_eq_zero.2 h2
      have h6 : b.count c ≤ n := by simp [h5] at h; omega
      simp only [Int.toNat_natCast, Nat.add_zero]
      rw [show (a ++ c :: b).drop (a.length + [c].length) = b by simp [List.drop_append], ih b h6]
      simp
theorem countFrom_one (c : UInt8) : ∀ (fuel : Nat) (s : List UInt8), s.length < fuel → Lib.countFrom [c] fuel s = s.count c := by
  intro fuel
  induction fuel with
  | zero => intro s h; omega
  | succ n ih =>
    intro s h
    unfold Lib.countFrom
    rcases index_one c s with ⟨h1, h2⟩ | ⟨a, b, rfl, h2, h3⟩
    · rw [h1, List.count_eq_zero.2 h2]; rfl
    · rw [h3]
      have h4 : ((a.length : Int) == -1) = false := by simp
      rw [h4]
      have h5 : List.count c a = 0 := List.count_eq_zero.2 h2
      simp only [Int.toNat_natCast]
      rw [show (a ++ c :: b).drop (a.length + [c].length) = b by simp [List.drop_append], ih b (by simp at h; omega)]
      simp [h5]
      omega
theorem count_one (c : UInt8) (s : List UInt8) : Lib.count s [c] = s.count c := countFrom_one c _ s (by omega)
theorem split_one (c : UInt8) (s : List UInt8) : Lib.splitK [c] 0 (Lib.count s [c]) s = splitL c s := splitK_one c _ s (by rw [count_one]; omega)
theorem splitL_length (c : UInt8) (s : List UInt8) : (splitL c s).length = s.count c + 1 := by
  induction s with
  | nil => rfl
  | cons x t ih =>
    unfold splitL
    by_cases hx : x = c
    · subst hx
      simp [ih]
    · rw [if_neg (by simpa using hx), List.count_cons_of_ne (by simpa using hx)]
      simp [ih]
theorem splitL_le (c : UInt8) (s : List UInt8) : ∀ p, p ∈ splitL c s → p.length ≤ s.length := by
  induction s with
  | nil => intro p hp; simp [splitL] at hp; simp [hp]
  | cons x t ih =>
    intro p hp
    unfold splitL at hp
    split at hp
    · simp only [List.mem_cons] at hp
      rcases hp with rfl | hp
      · simp
      · have := ih p hp; simp; omega
    · simp only [List.mem_cons] at hp
      rcases hp with rfl | hp
      · have : ((splitL c t).headD []).length ≤ t.length := by
          cases h : splitL c t with
          | nil => simp
          | cons a r => exact ih a (by rw [h]; simp)
        show (x :: (splitL c t).headD []).length ≤ (x :: t).length
        rw [List.length_cons, List.length_cons]; omega
      · have := ih p (List.mem_of_mem_tail hp); simp; omega
end Go.Proofs.YtfpdeiefkimaaaaGreatDoor
/-
  Package names, walked: Member, Parts, Valid.
-/
set_option linter.unusedSimpArgs false
set_option linter.unusedVariables false
namespace Go.Proofs.YtfpdeiefkimaaaaGreatDoor
open Go.RowKit

def initB : List UInt8 := [60, 105, 110, 105, 116, 62]
def memberB (l : List UInt8) : Bool := decide (l = initB) || (decide (l.length ≤ 60) && partB l)
def validB (l : List UInt8) : Bool := decide (l.length ≤ 60) && (splitL 47 l).all partB

/-- What of the package-level variables the library's functions read. -/
def MaxLenAt (w : World) : Prop := ∃ m : Int, w.cell? ⟨3, 0, none⟩ = some (.int .i64 m)

theorem parts_any (s : ByteArray) (w : World) (hs : s.size < 4294967281) (hm : MaxLenAt w) : Calls Tryz.prog 166 #[.string s] w fun e w' =>
    ∃ ps : List ByteArray, e = .returned (.slice (some ⟨w.heap.size, 0, none⟩) ps.length ps.length) ∧ w' = w.alloc (.cells (ps.map Value.string).toArray 9) ∧ ps.map (fun p => p.data.toList) = splitL 47 s.data.toList := by
  obtain ⟨m, hm⟩ := hm
  have hc := Tryz.strings_Split s ⟨#[47]⟩ m w hs hm (by decide)
  have h1 := Lib.splitB_data ⟨#[47]⟩ 0 (Lib.countB s ⟨#[47]⟩) s
  have h2 : Lib.splitK [47] 0 (Lib.countB s ⟨#[47]⟩) s.data.toList = splitL 47 s.data.toList := split_one 47 s.data.toList
  rw [show ((⟨#[47]⟩ : ByteArray).data.toList) = [47] from rfl, h2] at h1
  have h3 : (Lib.splitB ⟨#[47]⟩ 0 (Lib.countB s ⟨#[47]⟩) s).length = Lib.countB s ⟨#[47]⟩ + 1 := by
    have := congrArg List.length h1
    rw [List.length_map, splitL_length] at this
    rw [this]
    congr 1
    exact (count_one 47 s.data.toList).symm
  rw [← h3] at hc
  generalize Lib.splitB ⟨#[47]⟩ 0 (Lib.countB s ⟨#[47]⟩) s = ps at hc h1
  have Hc := hid hc
  have H1 := hid h1
  clear hc h1 h2 h3
  go_enter Tryz.func166, Tryz.ntmps166
  go_wp2_with fail
  refine Hc.out.mono ?_
  rintro e w1 ⟨rfl, rfl⟩
  go_wp2
  go_ret
  exact ⟨ps, rfl, rfl, H1.out⟩
end Go.Proofs.YtfpdeiefkimaaaaGreatDoor
/-
  Package names, walked: Member, Valid and what Valid calls.
-/
set_option linter.unusedSimpArgs false
set_option linter.unusedVariables false
namespace Go.Proofs.YtfpdeiefkimaaaaGreatDoor
open Go.RowKit

theorem member_any (s : ByteArray) (w : World) (hs : s.size ≤ 9223372036854775807) : Calls Tryz.prog 126 #[.string s] w fun e w' => e = .returned (.bool (memberB s.data.toList)) ∧ w = w' := by
  have Hc := hid (part_any s w hs)
  obtain ⟨b, hb⟩ : ∃ b : Bool, partB s.data.toList = b := ⟨_, rfl⟩
  rw [hb] at Hc
  have Hb := hid hb
  clear hb
  have hm : memberB s.data.toList = (decide (s.toList = [60, 105, 110, 105, 116, 62]) || (decide (s.size ≤ 60) && b)) := by
    rw [Bool.eq_iff_iff]
    simp [initB, memberB, Hb.out, ByteArray.toList_eq]
    exact or_congr decide_eq_true_iff Iff.rfl
  rw [hm]
  by_cases hi : s.toList = [60, 105, 110, 105, 116, 62]
  · go_enter Tryz.func126, Tryz.ntmps126
    go_wp2_with fail
    go_ret
    exact ⟨bool_ret (by simp [hi]), rfl⟩
  · by_cases hl : s.size ≤ 60
    · go_enter Tryz.func126, Tryz.ntmps126
      go_wp2_with fail
      refine Hc.out.mono ?_
      rintro e w1 ⟨rfl, rfl⟩
      go_wp2
      go_ret
      exact ⟨bool_ret (by simp [hi, hl]), rfl⟩
    · go_enter Tryz.func126, Tryz.ntmps126
      go_wp2
      go_ret
      exact ⟨bool_ret (by simp [hi, hl]), rfl⟩

theorem valid1_any (s : ByteArray) (w : World) (hs : s.size ≤ 9223372036854775807) : Calls Tryz.prog 167 #[.string s] w fun e w' => e = .returned (.bool (!partB s.data.toList)) ∧ w = w' := by
  have Hc := hid (part_any s w hs)
  go_enter Tryz.func167, Tryz.ntmps167
  go_wp2_with fail
  refine Hc.out.mono ?_
  rintro e w1 ⟨rfl, rfl⟩
  go_wp2
  go_ret
  exact ⟨rfl, rfl⟩

theorem indexFunc_any (ps : List ByteArray) (g : Nat) (w : World) (hb : Blk w g 9 (ps.map Value.string).toArray) (hl : ps.length ≤ 9223372036854775807) (hs : ∀ p, p ∈ ps → p.size ≤ 9223372036854775807) :
    Calls Tryz.prog 200 #[.slice (some ⟨g, 0, none⟩) ps.length ps.length, .func (.func 167) #[] #[]] w fun e w' =>
      ∃ i : Int, e = .returned (.int .i64 i) ∧ w = w' ∧ decide (0 ≤ i) = !ps.all fun p => partB p.data.toList := by
  have hget : ∀ k (h : k < ps.length), w.cell? ⟨g, k, none⟩ = some (.string ps[k]) := by
    intro k h
    rw [hb.cell]
    simp [h]
  go_enter Tryz.func200, Tryz.ntmps200
  go_wp2
  go_loop [8] (fun t => ∃ k : Nat, k ≤ ps.length ∧ t = .int .i64 k ∧ Hid ((ps.take k).all (fun p => partB p.data.toList) = true)) (fun t => ps.length - (intOf t).toNat)
  case atStart => exact ⟨0, Nat.zero_le _, rfl, hid (by simp)⟩
  case round =>
    obtain ⟨k, hk, rfl, hp⟩ := hrel
    by_cases hlt : k < ps.length
    · have hc := valid1_any ps[k] w (hs _ (List.getElem_mem hlt))
      have hg := hget k hlt
      obtain ⟨b, hb'⟩ : ∃ b : Bool, partB ps[k].data.toList = b := ⟨_, rfl⟩
      rw [hb'] at hc
      have Hc := hid hc
      have Hb := hid hb'
      clear hc hb'
      cases b with
      | true =>
        go_wp2_with fail
        refine Hc.out.mono ?_
        rintro e w1 ⟨rfl, rfl⟩
        go_wp2
        go_round
        case rel =>
          exact ⟨k + 1, by omega, by go_num, hid (by
            rw [List.take_succ_eq_append_getElem hlt, List.all_append, hp.out]
            simp [Hb.out])⟩
        case measure => simp [intOf]; omega
      | false =>
        go_wp2_with fail
        refine Hc.out.mono ?_
        rintro e w1 ⟨rfl, rfl⟩
        go_wp2
        go_ret
        refine ⟨k, rfl, rfl, ?_⟩
        have : ps.all (fun p => partB p.data.toList) = false := by
          rw [List.all_eq_false]
          exact ⟨ps[k], List.getElem_mem hlt, by simp [Hb.out]⟩
        rw [this]
        simp
    · obtain rfl : k = ps.length := by omega
      go_wp2
      go_ret
      refine ⟨-1, rfl, rfl, ?_⟩
      rw [List.take_length] at hp
      rw [hp.out]
      rfl

theorem containsFunc_any (ps : List ByteArray) (g : Nat) (w : World) (hb : Blk w g 9 (ps.map Value.string).toArray) (hl : ps.length ≤ 9223372036854775807) (hs : ∀ p, p ∈ ps → p.size ≤ 9223372036854775807) :
    Calls Tryz.prog 165 #[.slice (some ⟨g, 0, none⟩) ps.length ps.length, .func (.func 167) #[] #[]] w fun e w' =>
      e = .returned (.bool (!ps.all fun p => partB p.data.toList)) ∧ w = w' := by
  have hc := indexFunc_any ps g w hb hl hs
  obtain ⟨r, hr⟩ : ∃ r : Bool, (ps.all fun p => partB p.data.toList) = r := ⟨_, rfl⟩
  rw [hr] at hc
  rw [hr]
  have Hc := hid hc
  clear hc hr
  go_enter Tryz.func165, Tryz.ntmps165
  go_wp2_with fail
  refine Hc.out.mono ?_
  rintro e w1 ⟨i, rfl, rfl, hi⟩
  by_cases h0 : 0 ≤ i
  · have : r = false := by simpa [h0] using hi
    subst this
    go_wp2
    go_ret
    exact ⟨rfl, rfl⟩
  · have : r = true := by simpa [h0] using hi
    subst this
    go_wp2
    go_ret
    exact ⟨rfl, rfl⟩

/-- A world that says no more than the first, but for new memory. -/
theorem valid_any (s : ByteArray) (w : World) (hs : s.size ≤ 9223372036854775807) (hm : MaxLenAt w) : Calls Tryz.prog 122 #[.string s] w fun e w' => e = .returned (.bool (validB s.data.toList)) ∧ Upd w w' [] := by
  obtain ⟨b, hb⟩ : ∃ b : Bool, validB s.data.toList = b := ⟨_, rfl⟩
  rw [hb]
  by_cases hl : s.size ≤ 60
  · have Hc := hid (parts_any s w (by omega) hm)
    go_enter Tryz.func122, Tryz.ntmps122
    go_wp2_with fail
    refine Hc.out.mono ?_
    rintro e w1 ⟨ps, rfl, rfl, hps⟩
    have hlen : ps.length ≤ 61 := by
      have := congrArg List.length hps
      rw [List.length_map, splitL_length] at this
      have h2 : s.data.toList.count 47 ≤ s.data.toList.length := List.count_le_length
      have h3 : s.data.toList.length = s.size := by simp
      omega
    have hsz : ∀ p, p ∈ ps → p.size ≤ 9223372036854775807 := by
      intro p hp
      have h4 : p.data.toList ∈ splitL 47 s.data.toList := by rw [← hps]; exact List.mem_map_of_mem hp
      have h5 := splitL_le _ _ _ h4
      have h3 : s.data.toList.length = s.size := by simp
      have h6 : p.data.toList.length = p.size := by simp
      omega
    have Hk := hid (containsFunc_any ps w.heap.size (w.alloc (.cells (ps.map Value.string).toArray 9)) (Blk.new w _ _) (by omega) hsz)
    have hv : (ps.all fun p => partB p.data.toList) = b := by
      rw [← hb]
      unfold validB
      rw [← hps, List.all_map]
      simp [hl]
      rfl
    rw [hv] at Hk
    clear hv
    have hw : Upd w (w.alloc (.cells (ps.map Value.string).toArray 9)) [] := (Upd.refl w []).alloc _
    revert Hk hw
    generalize w.alloc (.cells (ps.map Value.string).toArray 9) = w2
    intro Hk hw
    go_wp2_with fail
    refine Hk.out.mono ?_
    rintro e w1 ⟨rfl, rfl⟩
    go_wp2
    go_ret
    exact ⟨bool_ret (by simp), hw⟩
  · have hv : validB s.data.toList = false := by
      unfold validB
      simp [hl]
    have : b = false := hb.symm.trans hv
    subst this
    clear hv hb
    go_enter Tryz.func122, Tryz.ntmps122
    go_wp2_with fail
    go_ret
    exact ⟨rfl, Upd.refl _ _⟩
end Go.Proofs.YtfpdeiefkimaaaaGreatDoor
/-
  The document's answer on names, walked: letter, Part, Member.
-/
set_option linter.unusedSimpArgs false
set_option linter.unusedVariables false
namespace Go.Proofs.YtfpdeiefkimaaaaGreatDoor
open Go.RowKit

set_option maxHeartbeats 800000 in
theorem letterR_any (c : Nat) (w : World) (hc : c < 256) : Calls Tryz.prog 176 #[.int .u8 c] w fun e w' => e = .returned (.bool (letterB c)) ∧ w = w' := by
  go_enter Tryz.func176, Tryz.ntmps176
  go_wp2
  all_goals go_ret
  all_goals refine ⟨bool_ret ?_, rfl⟩
  all_goals
    rw [Bool.eq_iff_iff]
    simp [letterB, beq_eq_false_iff_ne] at *
    try omega

set_option maxHeartbeats 800000 in
theorem partR_any (s : ByteArray) (w : World) (hs : s.size ≤ 9223372036854775807) : Calls Tryz.prog 134 #[.string s] w fun e w' => e = .returned (.bool (partB s.data.toList)) ∧ w = w' := by
  go_enter Tryz.func134, Tryz.ntmps134
  go_wp2
  go_loop [3] (fun t => ∃ k : Nat, k ≤ s.size ∧ t = .int .i64 k ∧ Hid (partFrom 0 s.data.toList = partFrom k (s.data.toList.drop k))) (fun t => s.size - (intOf t).toNat)
  case atStart => exact ⟨0, Nat.zero_le _, rfl, hid rfl⟩
  case round =>
    obtain ⟨k, hk, rfl, hp⟩ := hrel
    by_cases hlt : k < s.size
    · have hl : k < s.data.toList.length := by simpa using hlt
      have hq := hid (partFrom_drop s.data.toList k hl)
      have hc := letterR_any (s[k]'hlt).toNat w (by have := (s[k]'hlt).toNat_lt; omega)
      have eb : s.data.toList[k]'hl = s[k]'hlt := by simp [ByteArray.getElem_eq_getElem_data]
      rw [eb] at hq
      obtain ⟨b, hb⟩ : ∃ b : Bool, letterB (s[k]'hlt).toNat = b := ⟨_, rfl⟩
      rw [hb] at hc
      have Hc := hid hc
      have Hb := hid hb
      clear hc eb hb
      have fin : partB s.data.toList = false ∨ partB s.data.toList = true := by cases partB s.data.toList <;> simp
      have htrue : (s[k]'hlt).toNat < 256 := (s[k]'hlt).toNat_lt
      cases b with
      | true =>
        go_wp2_with fail
        refine Hc.out.mono ?_
        rintro e w1 ⟨rfl, rfl⟩
        go_wp2
        go_round
        case rel => exact ⟨k + 1, by omega, by go_num, hid (by rw [hp.out, hq.out, charB, Hb.out]; rfl)⟩
        case measure => simp [intOf]; omega
      | false =>
        have no : charB (s[k]'hlt).toNat (k == 0) = false → Hid (partB s.data.toList = false) := by
          intro h
          exact hid (by unfold partB; rw [hp.out, hq.out, h]; rfl)
        have ye : charB (s[k]'hlt).toNat (k == 0) = true → Hid (partFrom 0 s.data.toList = partFrom (k + 1) (s.data.toList.drop (k + 1))) := by
          intro h
          exact hid (by rw [hp.out, hq.out, h]; rfl)
        have hch : charB (s[k]'hlt).toNat (k == 0) = (!(k == 0) && digitB (s[k]'hlt).toNat) := by rw [charB, Hb.out]; rfl
        rw [hch] at no ye
        clear hch hq hp fin
        have No := hid no
        have Ye := hid ye
        clear no ye
        go_wp2_with fail
        refine Hc.out.mono ?_
        rintro e w1 ⟨rfl, rfl⟩
        clear Hc
        by_cases h0 : k = 0
        · subst h0
          go_wp2
          go_ret
          exact ⟨bool_ret (No.out (by simp)).out.symm, rfl⟩
        · by_cases h1 : (s[k]'hlt).toNat < 48
          · go_wp2
            go_ret
            exact ⟨bool_ret (No.out (by simp [digitB]; omega)).out.symm, rfl⟩
          · by_cases h2 : 57 < (s[k]'hlt).toNat
            · go_wp2
              go_ret
              exact ⟨bool_ret (No.out (by simp [digitB]; omega)).out.symm, rfl⟩
            · go_wp2
              · exfalso
                rename_i hx
                simp at hx
                omega
              · go_round
                case rel => exact ⟨k + 1, by omega, by go_num, Ye.out (by simp [digitB, h0]; omega)⟩
                case measure => simp [intOf]; omega
    · obtain rfl : k = s.size := by omega
      go_wp2
      go_ret
      refine ⟨bool_ret ?_, rfl⟩
      unfold partB
      rw [hp.out, List.drop_of_length_le (by simp)]
      show _ = (true && !s.data.toList.isEmpty)
      have h3 : s.data.toList.length = s.size := by simp
      cases h : s.data.toList with
      | nil => rw [h] at h3
               have : s.size = 0 := h3.symm
               simp [this]
      | cons a t => rw [h, List.length_cons] at h3
                    rw [Bool.eq_iff_iff]
                    simp
                    omega
end Go.Proofs.YtfpdeiefkimaaaaGreatDoor
/-
  Strings as lists of bytes; the plain reading of a type's text. No program text.
-/
set_option linter.unusedSimpArgs false
set_option linter.unusedVariables false
namespace Go.Proofs.YtfpdeiefkimaaaaGreatDoor
open Go.RowKit

/-- The string of these bytes. -/
def bs (l : List UInt8) : ByteArray := ⟨l.toArray⟩
theorem bs_data (l : List UInt8) : (bs l).data.toList = l := by simp [bs]
theorem bs_of (s : ByteArray) : bs s.data.toList = s := by cases s; simp [bs]
theorem bs_size (l : List UInt8) : (bs l).size = l.length := by
  show (bs l).data.size = _
  simp [bs]
theorem bs_toList (l : List UInt8) : (bs l).toList = l := by rw [ByteArray.toList_eq, bs_data]
theorem bs_get (l : List UInt8) (i : Nat) (h : i < (bs l).size) : (bs l)[i]'h = l[i]'(by rw [← bs_size]; exact h) := by
  have := bytes_get (bs l) i h
  rw [bs_data] at this
  exact (Option.some.inj ((List.getElem?_eq_getElem (by rw [← bs_size]; exact h)).symm.trans this)).symm
theorem bs_extract (l : List UInt8) (a b : Nat) : (bs l).extract a b = bs ((l.drop a).take (b - a)) := ByteArray.extract_mk l a b
theorem bs_tail (c : UInt8) (l : List UInt8) : (bs (c :: l)).extract 1 (bs (c :: l)).size = bs l := by
  rw [bs_extract, bs_size]
  simp
theorem bs_inj {a b : List UInt8} (h : bs a = bs b) : a = b := by rw [← bs_data a, h, bs_data]
theorem bs_nil : bs [] = ⟨#[]⟩ := rfl

/-- What stands ahead of the first c and behind it, where there is one. -/
def cutL (c : UInt8) : List UInt8 → Option (List UInt8 × List UInt8)
  | [] => none
  | x :: t => if x = c then some ([], t) else (cutL c t).map fun p => (x :: p.1, p.2)
theorem cutL_none (c : UInt8) (l : List UInt8) (h : c ∉ l) : cutL c l = none := by
  induction l with
  | nil => rfl
  | cons x t ih =>
    simp only [List.mem_cons, not_or] at h
    unfold cutL
    rw [if_neg (fun e => h.1 e.symm), ih h.2]
    rfl
theorem cutL_cut (c : UInt8) (a b : List UInt8) (h : c ∉ a) : cutL c (a ++ c :: b) = some (a, b) := by
  induction a with
  | nil => simp [cutL]
  | cons x t ih =>
    simp only [List.mem_cons, not_or] at h
    rw [List.cons_append]
    unfold cutL
    rw [if_neg (fun e => h.1 e.symm), ih h.2]
    rfl
theorem cut_one (c : UInt8) (l : List UInt8) : Lib.cut l [c] = match cutL c l with | some p => (p.1, p.2, true) | none => (l, [], false) := by
  unfold Lib.cut
  rcases index_one c l with ⟨h1, h2⟩ | ⟨a, b, rfl, h2, h3⟩
  · rw [h1, cutL_none c l h2]
    rfl
  · rw [h3, cutL_cut c a b h2]
    simp
theorem cutL_le (c : UInt8) (l : List UInt8) {p} (h : cutL c l = some p) : p.1.length + p.2.length + 1 = l.length := by
  induction l generalizing p with
  | nil => simp [cutL] at h
  | cons x t ih =>
    unfold cutL at h
    split at h
    · cases h; simp
    · cases ht : cutL c t with
      | none => rw [ht] at h; simp at h
      | some q =>
        rw [ht] at h
        simp at h
        subst h
        have := ih ht
        simp
        omega
/-- How many [ it begins with. -/
def lead : List UInt8 → Nat
  | [] => 0
  | c :: t => if c = 91 then lead t + 1 else 0
/-- One type behind its dimensions: its name and what is left. -/
def bareL : List UInt8 → Option (List UInt8 × List UInt8)
  | [] => none
  | c :: t => if c = 73 then some ([], t) else if c = 76 then (cutL 59 t).bind fun p => if validB p.1 then some p else none else none
theorem bareL_else {l : List UInt8} (h1 : ¬ ∃ t, l = 73 :: t) (h2 : ¬ ∃ t, l = 76 :: t) : bareL l = none := by
  cases l with
  | nil => rfl
  | cons c t =>
    show (if c = 73 then some ([], t) else if c = 76 then (cutL 59 t).bind fun p => if validB p.1 then some p else none else none) = none
    rw [if_neg (fun e => h1 ⟨t, by rw [e]⟩), if_neg (fun e => h2 ⟨t, by rw [e]⟩)]
theorem bareL_L (t : List UInt8) : bareL (76 :: t) = (cutL 59 t).bind fun p => if validB p.1 then some p else none := rfl
def oneL (l : List UInt8) : Option (List UInt8 × List UInt8) := bareL (l.drop (lead l))
theorem lead_le (l : List UInt8) : lead l ≤ l.length := by
  induction l with
  | nil => simp [lead]
  | cons c t ih => unfold lead; split <;> simp <;> omega
theorem lead_cons (t : List UInt8) : lead (91 :: t) = lead t + 1 := by simp [lead]
theorem lead_stop {c : UInt8} (t : List UInt8) (h : c ≠ 91) : lead (c :: t) = 0 := by simp [lead, h]
/-- A type's text; a reference type's text: dimensions, name, error. -/
def parseL (l : List UInt8) : Nat × List UInt8 × Int :=
  if 2000 < l.length then (0, [], 5) else
    match oneL l with
    | some (nm, []) => if 255 < lead l then (0, [], 5) else (lead l, nm, 0)
    | _ => (0, [], 4)
def parseRefL (l : List UInt8) : Nat × List UInt8 × Int :=
  if l.head? == some 91 then parseL l else if 2000 < l.length then (0, [], 5) else if validB l then (0, l, 0) else (0, [], 4)
end Go.Proofs.YtfpdeiefkimaaaaGreatDoor
/-
  A text that is cut at each byte c, step by step. No program text.
-/
set_option linter.unusedSimpArgs false
set_option linter.unusedVariables false
namespace Go.Proofs.YtfpdeiefkimaaaaGreatDoor
open Go.RowKit

/-- The pieces that are cut off up to place k; the next begins at f. -/
def cutRel (c : UInt8) (l : List UInt8) (ps : List (List UInt8)) (f k : Nat) : Prop := f ≤ k ∧ k ≤ l.length ∧ c ∉ (l.drop f).take (k - f) ∧ splitL c l = ps ++ splitL c (l.drop f) ∧ ps.length ≤ k
theorem cutRel_start (c : UInt8) (l : List UInt8) : cutRel c l [] 0 0 := by simp [cutRel]
theorem cutRel_skip {c : UInt8} {l : List UInt8} {ps : List (List UInt8)} {f k : Nat} (h : cutRel c l ps f k) (hk : k < l.length) (hc : l[k] ≠ c) : cutRel c l ps f (k + 1) := by
  obtain ⟨h1, h2, h3, h4, h5⟩ := h
  refine ⟨by omega, by omega, ?_, h4, by omega⟩
  rw [show k + 1 - f = (k - f) + 1 by omega, List.take_succ_eq_append_getElem (by simp; omega)]
  simp only [List.mem_append, not_or]
  refine ⟨h3, ?_⟩
  simp only [List.getElem_drop, List.mem_singleton]
  have : f + (k - f) = k := by omega
  simp only [this]
  exact fun e => hc e.symm
theorem cutRel_cut {c : UInt8} {l : List UInt8} {ps : List (List UInt8)} {f k : Nat} (h : cutRel c l ps f k) (hk : k < l.length) (hc : l[k] = c) : cutRel c l (ps ++ [(l.drop f).take (k - f)]) (k + 1) (k + 1) := by
  obtain ⟨h1, h2, h3, h4, h5⟩ := h
  refine ⟨Nat.le_refl _, by omega, by simp, ?_, by simp; omega⟩
  rw [h4, List.append_assoc]
  congr 1
  have e : l.drop f = (l.drop f).take (k - f) ++ c :: l.drop (k + 1) := by
    conv => lhs; rw [← List.take_append_drop (k - f) (l.drop f)]
    congr 1
    rw [List.drop_drop, show f + (k - f) = k by omega, List.drop_eq_getElem_cons hk, hc]
  conv => lhs; rw [e]
  rw [splitL_cut c _ _ h3]
  rfl
theorem cutRel_end {c : UInt8} {l : List UInt8} {ps : List (List UInt8)} {f : Nat} (h : cutRel c l ps f l.length) : splitL c l = ps ++ [l.drop f] := by
  obtain ⟨h1, h2, h3, h4, h5⟩ := h
  rw [h4]
  congr 1
  apply splitL_none
  rwa [List.take_of_length_le (by simp)] at h3
end Go.Proofs.YtfpdeiefkimaaaaGreatDoor
/-
  The document's answer on names, walked: Parts, Valid, Member.
-/
set_option linter.unusedSimpArgs false
set_option linter.unusedVariables false
namespace Go.Proofs.YtfpdeiefkimaaaaGreatDoor
open Go.RowKit

theorem infoString : (Tryz.prog.info? 9).map (fun i => (i.zero, i.size, i.bytes)) = some (some (.string ⟨#[]⟩), 1, 16) := by kernel_rfl
def strV (p : List UInt8) : Value := .string (bs p)

/-- A row of strings of the call's own that is handed back. -/
def rowPost (ps : List (List UInt8)) (w : World) (e : Ending) (w' : World) : Prop :=
  ∃ g cap, e = .returned (.slice (some ⟨g, 0, none⟩) ps.length cap) ∧ w'.ownsRow 0 9 1 (.slice (some ⟨g, 0, none⟩) ps.length cap) ps.length (ps.map strV) ∧ w.heap.size ≤ g ∧ Upd w w' []

def cutInv (c : UInt8) (l : List UInt8) (w : World) (v f i : Value) (wr : World) : Prop :=
  ∃ ps m k, f = .int .i64 (m : Nat) ∧ i = .int .i64 (k : Nat) ∧ Hid (cutRel c l ps m k) ∧ wr.ownsRow 0 9 1 v ps.length (ps.map strV) ∧ (∀ k, k ∈ Value.ob v → w.heap.size ≤ k) ∧ Upd w wr []

set_option maxHeartbeats 2000000 in
set_option maxRecDepth 100000 in
theorem partsR_any (l : List UInt8) (w : World) (hl : l.length ≤ 100000000) : Calls Tryz.prog 133 #[.string (bs l)] w (rowPost (splitL 47 l) w) := by
  have hs : (bs l).size = l.length := bs_size l
  obtain ⟨i0, hi0, hz0, hz1, hz2⟩ := info_parts infoString
  have Hs := hid hs
  have hs' : (bs l).size ≤ 100000000 := by omega
  clear hs
  go_enter Tryz.func133, Tryz.ntmps133
  go_wp2
  go_loopw [3, 4, 5] (fun v f i wr => cutInv 47 l w v f i wr) (fun _ _ i _ => (bs l).size - (intOf i).toNat)
  case atStart => exact ⟨[], 0, 0, rfl, rfl, hid (cutRel_start _ _), ⟨rfl, .inl ⟨rfl, rfl⟩⟩, by intro k hk; simp [Value.ob, Value.ownBlock] at hk, Upd.refl _ _⟩
  case round =>
    obtain ⟨ps, m, k, rfl, rfl, hr, hown, hv, hU⟩ := hrel
    have hmk : m ≤ k := hr.out.1
    have hk : k ≤ (bs l).size := by have := hr.out.2.1; rw [Hs.out]; exact this
    have hps : ps.length ≤ k := hr.out.2.2.2.2
    obtain ⟨A, cap, rfl, hcap⟩ := own_slice hown
    by_cases hlt : k < (bs l).size
    · have hkl : k < l.length := by rw [← Hs.out]; exact hlt
      have hb := ((bs l)[k]'hlt).toNat_lt
      by_cases hc : l[k] = 47
      · have hr2 := hid (cutRel_cut hr.out hkl hc)
        have hq : ((bs l)[k]'hlt).toNat = 47 := by rw [bs_get l k hlt, hc]; rfl
        have he : (bs l).extract m k = bs ((l.drop m).take (k - m)) := bs_extract l m k
        have He := hid he
        clear hc he
        go_wp2_with (at_builtin; go_must (refine wpList_append_one _ rfl (.tmp 16) (.tmp 21) 43 rfl 9 i0 _ 1 16 Tryz.underlying43 hi0 hz0 hz1 hz2 rfl (by decide) (by decide) (.slice A ps.length cap) ps.length (ps.map strV) rfl (by exact hown.alloc _) (by omega) wr.heap.size 9 #[.string ((bs l).extract m k)] rfl (by exact Blk.new_at (by simp)) rfl rfl ?_); intro g' cap' w9 hown' hg' hat')
        have hU9 : Upd w w9 [] := (hU.alloc _).grown hg' (by intro q hq; right; exact hv _ (mem_ob.2 hq))
        have hown2 : w9.ownsRow 0 9 1 (.slice (some ⟨g', 0, none⟩) (ps.length + 1) cap') (ps ++ [(l.drop m).take (k - m)]).length ((ps ++ [(l.drop m).take (k - m)]).map strV) := by
          rw [List.length_append, List.map_append]
          rw [He.out] at hown'
          exact hown'
        have hv2 : ∀ q, q ∈ Value.ob (.slice (some ⟨g', 0, none⟩) (ps.length + 1) cap') → w.heap.size ≤ q := by
          intro q hq
          have := mem_ob.1 hq
          simp [Value.ownBlock] at this
          subst this
          rcases hat' with h | h
          · exact hv _ (mem_ob.2 h)
          · rw [h]; have := hU.size; simp; omega
        clear hown hown' hv hU hg' hat'
        go_wp2
        go_roundw
        case rel => exact ⟨_, k + 1, k + 1, by go_num, by go_num, hr2, by simpa using hown2, hv2, hU9⟩
        case measure => simp [intOf]; omega
      · have hr2 := hid (cutRel_skip hr.out hkl hc)
        have hq : ((((bs l)[k]'hlt).toNat : Int) == 47) = false := by
          rw [bs_get l k hlt, beq_eq_false_iff_ne]
          intro h
          exact hc (UInt8.toNat_inj.1 (Int.ofNat.inj h))
        clear hc
        go_wp2
        go_roundw
        case rel => exact ⟨ps, m, k + 1, rfl, by go_num, hr2, hown, hv, hU⟩
        case measure => simp [intOf]; omega
    · obtain rfl : k = (bs l).size := by omega
      have he := cutRel_end (by have := hr.out; rw [Hs.out] at this; exact this)
      have hx : (bs l).extract m (bs l).size = bs (l.drop m) := by
        rw [bs_extract, Hs.out, List.take_of_length_le (by simp)]
      have Hx := hid hx
      have He := hid he
      clear hx he
      go_wp2_with (at_builtin; go_must (refine wpList_append_one _ rfl (.tmp 25) (.tmp 29) 43 rfl 9 i0 _ 1 16 Tryz.underlying43 hi0 hz0 hz1 hz2 rfl (by decide) (by decide) (.slice A ps.length cap) ps.length (ps.map strV) rfl (by exact hown.alloc _) (by omega) wr.heap.size 9 #[.string ((bs l).extract m (bs l).size)] rfl (by exact Blk.new_at (by simp)) rfl rfl ?_); intro g' cap' w9 hown' hg' hat')
      go_ret
      have hlen : (splitL 47 l).length = ps.length + 1 := by rw [He.out]; simp
      refine ⟨g', cap', by rw [hlen]; rfl, ?_, ?_, (hU.alloc _).grown hg' (by intro q hq; right; exact hv _ (mem_ob.2 hq))⟩
      · rw [hlen, He.out, List.map_append]
        rw [Hx.out] at hown'
        exact hown'
      · rcases hat' with h | h
        · exact hv _ (mem_ob.2 h)
        · rw [h]; have := hU.size; simp; omega

theorem own_cell {w : World} {base : Nat} {e : TypeId} {n cap g : Nat} {xs : List Value} (h : w.ownsRow base e 1 (.slice (some ⟨g, 0, none⟩) n cap) n xs) (i : Nat) (hi : i < n) : w.cell? ⟨g, i, none⟩ = xs[i]? := by
  rcases h.2 with ⟨h1, _⟩ | ⟨g', cap', cur, hv, hb, hg, h1, h2, h3, h4⟩
  · cases h1
  · injection hv with hv1 hv2 hv3
    injection hv1 with hv1
    injection hv1 with hv1
    subst hv1
    rw [cell_of_row w g i cur e (0, 0) hg, ← h4, List.getElem?_take]
    simp [hi]

set_option maxHeartbeats 1000000 in
theorem validR_any (l : List UInt8) (w : World) (hl : l.length ≤ 9223372036854775807) : Calls Tryz.prog 80 #[.string (bs l)] w fun e w' => e = .returned (.bool (validB l)) ∧ Upd w w' [] := by
  have hs : (bs l).size = l.length := bs_size l
  by_cases h60 : l.length ≤ 60
  · have hv : validB l = (splitL 47 l).all partB := by unfold validB; simp [h60]
    have hn : (splitL 47 l).length ≤ 61 := by
      rw [splitL_length]
      have := List.count_le_length (a := (47 : UInt8)) (l := l)
      omega
    have hz : ∀ p, p ∈ splitL 47 l → p.length ≤ 60 := fun p hp => Nat.le_trans (splitL_le 47 l p hp) h60
    have Hp := hid (partsR_any l w (by omega))
    rw [hv]
    generalize splitL 47 l = ps at Hp hn hz
    clear hv
    go_enter Tryz.func80, Tryz.ntmps80
    go_wp2_with fail
    refine Hp.out.mono ?_
    rintro e w1 ⟨g, cap, rfl, hown, hg, hU⟩
    go_wp2
    go_loop [4] (fun t => ∃ k : Nat, k ≤ ps.length ∧ t = .int .i64 k ∧ Hid ((ps.take k).all partB = true)) (fun t => ps.length - (intOf t).toNat)
    case atStart => exact ⟨0, Nat.zero_le _, rfl, hid (by simp)⟩
    case round =>
      obtain ⟨k, hk, rfl, hp⟩ := hrel
      by_cases hlt : k < ps.length
      · have hc := own_cell hown k hlt
        rw [List.getElem?_map, List.getElem?_eq_getElem hlt] at hc
        simp only [Option.map_some, strV] at hc
        have hz1 := hz _ (List.getElem_mem hlt)
        have Hq := hid (partR_any (bs ps[k]) w1 (by rw [bs_size]; omega))
        rw [bs_data] at Hq
        obtain ⟨b, hb⟩ : ∃ b, partB ps[k] = b := ⟨_, rfl⟩
        rw [hb] at Hq
        have Hb := hid hb
        clear hb hz1
        cases b with
        | true =>
          go_wp2_with fail
          refine Hq.out.mono ?_
          rintro e w2 ⟨rfl, rfl⟩
          go_wp2
          go_round
          case rel =>
            exact ⟨k + 1, by omega, by go_num, hid (by
              rw [List.take_succ_eq_append_getElem hlt, List.all_append, hp.out]
              simp [Hb.out])⟩
          case measure => simp [intOf]; omega
        | false =>
          go_wp2_with fail
          refine Hq.out.mono ?_
          rintro e w2 ⟨rfl, rfl⟩
          go_wp2
          go_ret
          refine ⟨bool_ret ?_, hU⟩
          symm
          rw [List.all_eq_false]
          exact ⟨ps[k], List.getElem_mem hlt, by simp [Hb.out]⟩
      · obtain rfl : k = ps.length := by omega
        rw [List.take_length] at hp
        go_wp2
        go_ret
        exact ⟨bool_ret hp.out.symm, hU⟩
  · have hv : validB l = false := by unfold validB; simp [h60]
    rw [hv]
    clear hv
    go_enter Tryz.func80, Tryz.ntmps80
    go_wp2
    go_ret
    exact ⟨rfl, Upd.refl _ _⟩

theorem memberR_any (s : ByteArray) (w : World) (hs : s.size ≤ 9223372036854775807) : Calls Tryz.prog 136 #[.string s] w fun e w' => e = .returned (.bool (memberB s.data.toList)) ∧ w = w' := by
  have Hc := hid (partR_any s w hs)
  obtain ⟨b, hb⟩ : ∃ b : Bool, partB s.data.toList = b := ⟨_, rfl⟩
  rw [hb] at Hc
  have Hb := hid hb
  clear hb
  have hm : memberB s.data.toList = (decide (s.toList = [60, 105, 110, 105, 116, 62]) || (decide (s.size ≤ 60) && b)) := by
    rw [Bool.eq_iff_iff]
    simp [initB, memberB, Hb.out, ByteArray.toList_eq]
    exact or_congr decide_eq_true_iff Iff.rfl
  rw [hm]
  by_cases hi : s.toList = [60, 105, 110, 105, 116, 62]
  · go_enter Tryz.func136, Tryz.ntmps136
    go_wp2_with fail
    go_ret
    exact ⟨bool_ret (by simp [hi]), rfl⟩
  · by_cases hl : s.size ≤ 60
    · go_enter Tryz.func136, Tryz.ntmps136
      go_wp2_with fail
      refine Hc.out.mono ?_
      rintro e w1 ⟨rfl, rfl⟩
      go_wp2
      go_ret
      exact ⟨bool_ret (by simp [hi, hl]), rfl⟩
    · go_enter Tryz.func136, Tryz.ntmps136
      go_wp2
      go_ret
      exact ⟨bool_ret (by simp [hi, hl]), rfl⟩
end Go.Proofs.YtfpdeiefkimaaaaGreatDoor
