/-
  errors.As, at a refusal that holds a fault: turned out of the kit's worked example.
-/
import Derived.Deep.DeepCutAuto
import Derived.Stop.Asserts
import Derived.Test.YtfpdeiefkimaaaaGreatDoorKD
import Derived.Test.YtfpdeiefkimaaaaGreatDoorKI
import Derived.Test.YtfpdeiefkimaaaaGreatDoorKJ
import Derived.Test.YtfpdeiefkimaaaaGreatDoorKM
set_option linter.unusedSimpArgs false
set_option linter.unusedVariables false
namespace Go.Proofs.YtfpdeiefkimaaaaGreatDoor
open Go.RowKit Go.Sort Go.Extern.Stop Go.Stop Go.Extern

theorem as_valueOfP (t : Addr) (w : World) : (ReflectliteValue.unpack (.iface 109 (.pointer (some t)))).run Tryz.prog w = .ok (.agg #[.pointer (some ⟨9, 109, none⟩), .pointer (some ⟨w.heap.size, 0, none⟩), .int .u64 150]) (w.alloc (.cells #[.pointer (some t)] 109)) := by kernel_rfl
theorem as_typeP (a : Addr) (w : World) : (ReflectliteValue.methodAny (ReflectliteValue.valueError "reflectlite.Value.Type" 0) (fun t _ _ _ => ReflectliteType.toType t) #[(.agg #[.pointer (some ⟨9, 109, none⟩), .pointer (some a), .int .u64 150])]).run Tryz.prog w = .ok (.iface 205 (.agg #[.pointer (some ⟨9, 109, none⟩)])) w := by kernel_rfl
theorem as_mKind (a : Addr) (w : World) : (Go.method 416 205 (.agg #[.pointer (some a)]) "Kind").run Tryz.prog w = .ok (261, .pointer (some a)) w := by kernel_rfl
theorem as_mElem (h : Value) (w : World) : (Go.method 416 205 (.agg #[h]) "Elem").run Tryz.prog w = .ok (274, .agg #[h]) w := by kernel_rfl
theorem as_mImplements (h : Value) (w : World) : (Go.method 416 205 (.agg #[h]) "Implements").run Tryz.prog w = .ok (275, .agg #[h]) w := by kernel_rfl
theorem as_mAssignableTo (h : Value) (w : World) : (Go.method 416 205 (.agg #[h]) "AssignableTo").run Tryz.prog w = .ok (272, .agg #[h]) w := by kernel_rfl
theorem as_kindP (w : World) : ((ReflectliteType.abiMethod fun t => (fun a : Nat => Value.int IntKind.u8 (a : Int)) <$> Rtype.kind t) #[.pointer (some ⟨9, 109, none⟩)]).run Tryz.prog w = .ok (.int .u8 22) w := by kernel_rfl
theorem as_kindT (w : World) : ((ReflectliteType.abiMethod fun t => (fun a : Nat => Value.int IntKind.u8 (a : Int)) <$> Rtype.kind t) #[.pointer (some ⟨9, 107, none⟩)]).run Tryz.prog w = .ok (.int .u8 22) w := by kernel_rfl
theorem rlm (z : Sem Value) (f : TypeId → Addr → Nat → Nat → Sem Value) (v : Value) :
    ReflectliteValue.method z f #[v] = (do match ← ReflectliteValue.parts v with | none => z | some (t, a, fl) => f t a fl (fl % 32)) := rfl
theorem as_partsP (a : Addr) (w : World) : (ReflectliteValue.parts (.agg #[.pointer (some ⟨9, 109, none⟩), .pointer (some a), .int .u64 150])).run Tryz.prog w = .ok (some (109, a, 150)) w := by kernel_rfl
theorem as_isNil (a p : Addr) (W : World) (ha : W.cell? a = some (.pointer (some p))) :
    (ReflectliteValue.method (ReflectliteValue.valueError "reflectlite.Value.IsNil" 0) ReflectliteValue.isNil #[(.agg #[.pointer (some ⟨9, 109, none⟩), .pointer (some a), .int .u64 150])]).run Tryz.prog W = .ok (.bool false) W := by
  rw [rlm]
  simp only [Sem.run_bind, as_partsP, Result.andThen]
  simp [ReflectliteValue.isNil, loadVar, isAgg, underlying, Tryz.underlying109, ha, Result.andThen]
theorem as_elemP (w : World) : (ReflectliteType.method ReflectliteType.elem #[(.agg #[.pointer (some ⟨9, 109, none⟩)])]).run Tryz.prog w = .ok (.iface 205 (.agg #[.pointer (some ⟨9, 107, none⟩)])) w := by kernel_rfl
theorem as_impl (w : World) : (ReflectliteType.relation "Implements" ReflectliteType.implements_ #[(.agg #[.pointer (some ⟨9, 107, none⟩)]), (.iface 205 (.agg #[.pointer (some ⟨9, 59, none⟩)]))]).run Tryz.prog w = .ok (.bool true) w := by kernel_rfl
theorem as_typeOf (v : Value) (w : World) : (ReflectliteType.typeOf #[.iface 107 v]).run Tryz.prog w = .ok (.iface 205 (.agg #[.pointer (some ⟨9, 107, none⟩)])) w := by kernel_rfl
theorem as_typeOfR (v : Value) (w : World) : (ReflectliteType.typeOf #[.iface 152 v]).run Tryz.prog w = .ok (.iface 205 (.agg #[.pointer (some ⟨9, 152, none⟩)])) w := by kernel_rfl
theorem as_assign (w : World) : (ReflectliteType.relation "AssignableTo" ReflectliteType.assignableTo #[(.agg #[.pointer (some ⟨9, 107, none⟩)]), (.iface 205 (.agg #[.pointer (some ⟨9, 107, none⟩)]))]).run Tryz.prog w = .ok (.bool true) w := by kernel_rfl
theorem as_assignR (w : World) : (ReflectliteType.relation "AssignableTo" ReflectliteType.assignableTo #[(.agg #[.pointer (some ⟨9, 152, none⟩)]), (.iface 205 (.agg #[.pointer (some ⟨9, 107, none⟩)]))]).run Tryz.prog w = .ok (.bool false) w := by kernel_rfl
theorem as_valueOfT (t : Addr) (w : World) : (ReflectliteValue.unpack (.iface 107 (.pointer (some t)))).run Tryz.prog w = .ok (.agg #[.pointer (some ⟨9, 107, none⟩), .pointer (some ⟨w.heap.size, 0, none⟩), .int .u64 150]) (w.alloc (.cells #[.pointer (some t)] 107)) := by kernel_rfl
theorem as_elemOf (w : World) : (Rtype.elem? 109).run Tryz.prog w = .ok (some 107) w := by kernel_rfl
theorem as_mk (p : Addr) (w : World) : (ReflectliteValue.mk 107 p ReflectliteValue.flagAddr).run Tryz.prog w = .ok (.agg #[.pointer (some ⟨9, 107, none⟩), .pointer (some p), .int .u64 406]) w := by kernel_rfl
theorem as_elemV (a p : Addr) (W : World) (ha : W.cell? a = some (.pointer (some p))) :
    (ReflectliteValue.method (ReflectliteValue.valueError "reflectlite.Value.Elem" 0) ReflectliteValue.elem #[(.agg #[.pointer (some ⟨9, 109, none⟩), .pointer (some a), .int .u64 150])]).run Tryz.prog W
      = .ok (.agg #[.pointer (some ⟨9, 107, none⟩), .pointer (some p), .int .u64 406]) W := by
  rw [rlm]
  simp only [Sem.run_bind, as_partsP, Result.andThen]
  simp [ReflectliteValue.elem, loadVar, isAgg, underlying, Tryz.underlying109, ha, Result.andThen, as_elemOf, as_mk]
theorem rls (v x : Value) : ReflectliteValue.set #[v, x] = (do
    let (some (dst, a, fl), some (src, b, _)) := (← ReflectliteValue.parts v, ← ReflectliteValue.parts x)
      | unsupported (.noEntry "extern/(internal/reflectlite.Value).Set.zeroValue")
    if fl / ReflectliteValue.flagAddr % 2 == 0 then unsupported (.noEntry "extern/(internal/reflectlite.Value).Set.unaddressable")
    let val ← loadVar src b
    if ← Rtype.directlyAssignable dst src then storeVar dst a val
    else if ← Rtype.implements dst src then
      if (← Rtype.kind src) == 20 then
        match val with
        | .nilIface => unsupported (.noEntry "extern/reflectlite: a nil value of one interface type handed on as a value of another")
        | _ => storeVar dst a val
      else storeVar dst a (.iface src val)
    else panicString ("reflectlite.Set: value of type " ++ (← Rtype.spelt src) ++ " is not assignable to type " ++ (← Rtype.spelt dst))
    pure (.tuple #[])) := rfl
theorem as_partsTa (a : Addr) (w : World) : (ReflectliteValue.parts (.agg #[.pointer (some ⟨9, 107, none⟩), .pointer (some a), .int .u64 406])).run Tryz.prog w = .ok (some (107, a, 406)) w := by kernel_rfl
theorem as_partsT (a : Addr) (w : World) : (ReflectliteValue.parts (.agg #[.pointer (some ⟨9, 107, none⟩), .pointer (some a), .int .u64 150])).run Tryz.prog w = .ok (some (107, a, 150)) w := by kernel_rfl
theorem as_direct (w : World) : (Rtype.directlyAssignable 107 107).run Tryz.prog w = .ok true w := by kernel_rfl
theorem as_set (ta b e : Addr) (old : Value) (W : World) (hb : W.cell? b = some (.pointer (some e))) (ht : W.cell? ta = some old) (hf : W.frozen? ta = false) :
    (ReflectliteValue.set #[(.agg #[.pointer (some ⟨9, 107, none⟩), .pointer (some ta), .int .u64 406]), (.agg #[.pointer (some ⟨9, 107, none⟩), .pointer (some b), .int .u64 150])]).run Tryz.prog W
      = .ok (.tuple #[]) (W.setCell ta (.pointer (some e))) := by
  rw [rls]
  simp only [Sem.run_bind, as_partsTa, as_partsT, Result.andThen]
  simp [ReflectliteValue.flagAddr, loadVar, isAgg, underlying, Tryz.underlying107, hb, Result.andThen, as_direct, storeVar, Value.cells, storeCells, Addr.add]
  rw [run_store Tryz.prog W ta _ _ (by rfl)]
  simp [ht, hf]
theorem as_noAs (v : Value) (xT : TypeId) (w : World) : (Instr.typeAssert (.iface 152 v) xT 210 true).run Tryz.prog w = .ok (.tuple #[.nilIface, .bool false]) w := run_typeAssert_lacksB Tryz.underlying210 (by kernel_rfl) (by kernel_rfl) v xT w
theorem as_hasUn (v : Value) (xT : TypeId) (w : World) : (Instr.typeAssert (.iface 152 v) xT 213 true).run Tryz.prog w = .ok (.tuple #[.iface 152 v, .bool true]) w := run_typeAssert_hasB Tryz.underlying213 (by kernel_rfl) v xT w
theorem as_mUnwrap (a : Addr) (w : World) : (Go.method 416 152 (.pointer (some a)) "Unwrap").run Tryz.prog w = .ok (267, .pointer (some a)) w := by kernel_rfl
theorem as_nil (t : Value) (w : World) : Calls Tryz.prog 57 #[.nilIface, t] w fun e w' => e = .returned (.bool false) ∧ w' = w := by
  go_enter Tryz.func57, Tryz.ntmps57
  go_wp2
  go_ret
  exact ⟨rfl, rfl⟩
theorem unwrap_any (rb fb : Nat) (w : World) (hr : Blk w rb 154 #[.iface 107 (.pointer (some ⟨fb, 0, none⟩))]) :
    Calls Tryz.prog 267 #[.pointer (some ⟨rb, 0, none⟩)] w fun e w' => e = .returned (.iface 107 (.pointer (some ⟨fb, 0, none⟩))) ∧ w' = w := by
  have h0 := hr.cell 0
  simp at h0
  clear hr
  go_enter Tryz.func267, Tryz.ntmps267
  go_wp2
  go_ret
  exact ⟨rfl, rfl⟩

set_option maxHeartbeats 8000000 in
theorem as_any (rb fb : Nat) (t : Addr) (old : Value) (w : World) (hg : w.cell? ⟨0, 0, none⟩ = some (.iface 205 (.agg #[.pointer (some ⟨9, 59, none⟩)]))) (ht0 : w.cell? t = some old) (hf0 : w.frozen? t = false) (hr : Blk w rb 154 #[.iface 107 (.pointer (some ⟨fb, 0, none⟩))]) :
    Calls Tryz.prog 57 #[.iface 152 (.pointer (some ⟨rb, 0, none⟩)), .iface 109 (.pointer (some t))] w fun e w' => e = .returned (.bool true) ∧ w' = ((((w.alloc (.cells #[.pointer (some t)] 109)).alloc (.cells #[.pointer (some ⟨9, 109, none⟩), .pointer (some ⟨w.heap.size, 0, none⟩), .int .u64 150] 157)).alloc (.cells #[.pointer (some ⟨9, 109, none⟩), .pointer (some ⟨w.heap.size, 0, none⟩), .int .u64 150] 157)).alloc (.cells #[.pointer (some ⟨fb, 0, none⟩)] 107)).setCell t (.pointer (some ⟨fb, 0, none⟩)) := by
  have h117 := @run_callFunc_extern Tryz.prog 106 _ (fun args => ReflectliteValue.unpack (args.getD 0 (.tuple #[]))) Tryz.func106 (by kernel_rfl) (by kernel_rfl) (by kernel_rfl) (by kernel_rfl)
  have h118 := @run_callFunc_extern Tryz.prog 107 _ (ReflectliteValue.methodAny (ReflectliteValue.valueError "reflectlite.Value.Type" 0) (fun t _ _ _ => ReflectliteType.toType t)) Tryz.func107 (by kernel_rfl) (by kernel_rfl) (by kernel_rfl) (by kernel_rfl)
  have h119 := @run_callFunc_extern Tryz.prog 108 _ (ReflectliteValue.method (ReflectliteValue.valueError "reflectlite.Value.IsNil" 0) ReflectliteValue.isNil) Tryz.func108 (by kernel_rfl) (by kernel_rfl) (by kernel_rfl) (by kernel_rfl)
  have h221 := @run_callFunc_extern Tryz.prog 261 _ (ReflectliteType.abiMethod fun t => do pure (.int .u8 (← Rtype.kind t))) Tryz.func261 (by kernel_rfl) (by kernel_rfl) (by kernel_rfl) (by kernel_rfl)
  have h238 := @run_callFunc_extern Tryz.prog 274 _ (ReflectliteType.method ReflectliteType.elem) Tryz.func274 (by kernel_rfl) (by kernel_rfl) (by kernel_rfl) (by kernel_rfl)
  have h239 := @run_callFunc_extern Tryz.prog 275 _ (ReflectliteType.relation "Implements" ReflectliteType.implements_) Tryz.func275 (by kernel_rfl) (by kernel_rfl) (by kernel_rfl) (by kernel_rfl)
  have h161 := @run_callFunc_extern Tryz.prog 158 _ ReflectliteType.typeOf Tryz.func158 (by kernel_rfl) (by kernel_rfl) (by kernel_rfl) (by kernel_rfl)
  have h236 := @run_callFunc_extern Tryz.prog 272 _ (ReflectliteType.relation "AssignableTo" ReflectliteType.assignableTo) Tryz.func272 (by kernel_rfl) (by kernel_rfl) (by kernel_rfl) (by kernel_rfl)
  have h162 := @run_callFunc_extern Tryz.prog 159 _ (ReflectliteValue.method (ReflectliteValue.valueError "reflectlite.Value.Elem" 0) ReflectliteValue.elem) Tryz.func159 (by kernel_rfl) (by kernel_rfl) (by kernel_rfl) (by kernel_rfl)
  have h163 := @run_callFunc_extern Tryz.prog 160 _ ReflectliteValue.set Tryz.func160 (by kernel_rfl) (by kernel_rfl) (by kernel_rfl) (by kernel_rfl)
  have q0 := as_valueOfP
  have q1 := as_typeP
  have q2 := as_mKind
  have q3 := as_mElem
  have q4 := as_mImplements
  have q5 := as_mAssignableTo
  have q6 := as_kindP
  have q7 := as_kindT
  have q8 := as_elemP
  have q9 := as_impl
  have q10 := as_typeOf
  have q11 := as_typeOfR
  have q12 := as_assign
  have q13 := as_assignR
  have q14 := as_valueOfT
  have q15 := as_noAs
  have q16 := as_hasUn
  have q17 := as_mUnwrap
  have n8 := as_isNil ⟨w.heap.size, 0, none⟩ t ((w.alloc (.cells #[.pointer (some t)] 109)).alloc (.cells #[.pointer (some ⟨9, 109, none⟩), .pointer (some ⟨w.heap.size, 0, none⟩), .int .u64 150] 157)) (by simp)
  have hlt : 0 < w.heap.size := by
    rcases Nat.eq_zero_or_pos w.heap.size with h0 | h
    · simp [World.cell?, h0] at hg
    · exact h
  have hg2 : ((w.alloc (.cells #[.pointer (some t)] 109)).alloc (.cells #[.pointer (some ⟨9, 109, none⟩), .pointer (some ⟨w.heap.size, 0, none⟩), .int .u64 150] 157)).cell? ⟨0, 0, none⟩ = some (.iface 205 (.agg #[.pointer (some ⟨9, 59, none⟩)])) := by
    rw [World.cell?_alloc_lt _ _ ⟨0, 0, none⟩ (by simp), World.cell?_alloc_lt _ _ ⟨0, 0, none⟩ hlt]; exact hg
  have htl : t.block < w.heap.size := by
    rcases Nat.lt_or_ge t.block w.heap.size with h | h
    · exact h
    · simp [World.cell?, Array.getElem?_eq_none h] at ht0
  have el := as_elemV ⟨w.heap.size, 0, none⟩ t (((w.alloc (.cells #[.pointer (some t)] 109)).alloc (.cells #[.pointer (some ⟨9, 109, none⟩), .pointer (some ⟨w.heap.size, 0, none⟩), .int .u64 150] 157)).alloc (.cells #[.pointer (some ⟨9, 109, none⟩), .pointer (some ⟨w.heap.size, 0, none⟩), .int .u64 150] 157)) (by rw [World.cell?_alloc_lt _ _ ⟨w.heap.size, 0, none⟩ (by simp; omega)]; simp)
  have st := as_set t ⟨w.heap.size + 1 + 1 + 1, 0, none⟩ ⟨fb, 0, none⟩ old ((((w.alloc (.cells #[.pointer (some t)] 109)).alloc (.cells #[.pointer (some ⟨9, 109, none⟩), .pointer (some ⟨w.heap.size, 0, none⟩), .int .u64 150] 157)).alloc (.cells #[.pointer (some ⟨9, 109, none⟩), .pointer (some ⟨w.heap.size, 0, none⟩), .int .u64 150] 157)).alloc (.cells #[.pointer (some ⟨fb, 0, none⟩)] 107))
    (by rw [World.cell?_alloc_at _ _ _ _ (by simp)]; rfl)
    (by rw [World.cell?_alloc_lt _ _ t (by simp; omega), World.cell?_alloc_lt _ _ t (by simp; omega), World.cell?_alloc_lt _ _ t (by simp; omega), World.cell?_alloc_lt _ _ t htl]; exact ht0)
    (by rw [World.frozen?_alloc_old _ _ t (by simp; omega), World.frozen?_alloc_old _ _ t (by simp; omega), World.frozen?_alloc_old _ _ t (by simp; omega), World.frozen?_alloc_old _ _ t (Nat.ne_of_lt htl)]; exact hf0)
  have Hun := hid (unwrap_any rb fb (((w.alloc (.cells #[.pointer (some t)] 109)).alloc (.cells #[.pointer (some ⟨9, 109, none⟩), .pointer (some ⟨w.heap.size, 0, none⟩), .int .u64 150] 157)).alloc (.cells #[.pointer (some ⟨9, 109, none⟩), .pointer (some ⟨w.heap.size, 0, none⟩), .int .u64 150] 157)) (((hr.alloc _).alloc _).alloc _))
  go_enter Tryz.func57, Tryz.ntmps57
  go_wp2
  refine wp_loop_rounds 2 ?_
  rw [rounds_succ]
  go_wp2_with fail
  refine Hun.out.mono ?_
  rintro e w2 ⟨rfl, rfl⟩
  go_wp2
  rw [rounds_succ]
  go_wp2
  go_ret
  exact ⟨rfl, rfl⟩
end Go.Proofs.YtfpdeiefkimaaaaGreatDoor
/-
  What a reader of lines has read, as a class in memory; what its parts are like; plain laws.
-/
set_option linter.unusedSimpArgs false
set_option linter.unusedVariables false
namespace Go.Proofs.YtfpdeiefkimaaaaGreatDoor
open Go.RowKit

def rng (n : Int) : Prop := -9223372036854775808 ≤ n ∧ n ≤ 9223372036854775807
structure MethS.fine (m : MethS) : Prop where
  nm : m.nm.length ≤ 40000
  ds : m.ds.length ≤ 40000
  fl : rng m.fl
  lo : rng m.lo
  st : rng m.st
  ins : ∀ i, i ∈ m.code → i.fit ∧ i.num
structure RdS.fine (r : RdS) : Prop where
  nm : r.nm.length ≤ 40000
  sup : r.sup.length ≤ 40000
  ifs : ∀ x, x ∈ r.ifs → x.length ≤ 40000
  fl : rng r.fl
  ld : rng r.ld
  ms : ∀ m, m ∈ r.ms → m.fine
theorem rng0 : rng 0 := ⟨by omega, by omega⟩
theorem fine0 : rd0.fine := ⟨Nat.zero_le _, Nat.zero_le _, (fun x h => by cases h), rng0, rng0, (fun x h => by cases h)⟩

theorem namedP_len {wd line s : List UInt8} (h : namedP wd (splitL 32 line) = some s) (hl : line.length ≤ 40000) : s.length ≤ 40000 := by
  have hle := splitL_le 32 line
  match hs : splitL 32 line with
  | [] => rw [hs] at h; cases h
  | [a] => rw [hs] at h; cases h
  | [a, b] =>
    rw [hs] at h
    have h : (if a = wd ∧ b ≠ [] then some b else none) = some s := h
    split at h
    · cases h
      exact Nat.le_trans (hle s (by rw [hs]; simp)) hl
    · cases h
  | a :: b :: c :: t => rw [hs] at h; cases h
theorem numL_rng {s : List UInt8} {n : Int} (h : numL s = some n) : rng n := by
  unfold numL at h
  split at h
  · rename_i hc
    cases h
    have := numOut_good hc.1
    exact ⟨by omega, by omega⟩
  · cases h
theorem numberedP_rng {wd : List UInt8} {ps : List (List UInt8)} {n : Int} (h : numberedP wd ps = some n) : rng n := by
  unfold numberedP at h
  obtain ⟨s, -, hs⟩ := Option.bind_eq_some_iff.1 h
  exact numL_rng hs
theorem parseF_rng (m : Int) (l : List UInt8) : rng (parseF m l).1 := by
  unfold parseF
  split
  · exact foldF_bd m _ 0 ⟨by omega, by omega⟩
  · exact rng0
theorem flagsP_rng {m : Int} {ps : List (List UInt8)} {n : Int} (h : flagsP m ps = some n) : rng n := by
  unfold flagsP at h
  split at h
  · cases h; exact rng0
  · split at h
    · cases h
    · split at h
      · cases h; exact parseF_rng _ _
      · cases h
theorem clsFlagsP_rng {ps : List (List UInt8)} {n : Int} (h : clsFlagsP ps = some n) : rng n := by
  unfold clsFlagsP at h
  split at h
  · split at h
    · exact flagsP_rng h
    · cases h
  · cases h
theorem beginP_fine {line : List UInt8} {m : MethS} (h : beginP (splitL 32 line) = some m) (hl : line.length ≤ 40000) : m.fine := by
  have hle := splitL_le 32 line
  match hs : splitL 32 line with
  | [] => rw [hs] at h; cases h
  | [a] => rw [hs] at h; cases h
  | [a, b] => rw [hs] at h; cases h
  | a :: b :: c :: t =>
    rw [hs] at h
    unfold beginP at h
    split at h
    · rename_i hq
      split at h
      · obtain ⟨f, hf, rfl⟩ := Option.map_eq_some_iff.1 h
        cases hq
        exact ⟨Nat.le_trans (hle b (by rw [hs]; simp)) hl, Nat.le_trans (hle c (by rw [hs]; simp)) hl, flagsP_rng hf, rng0, rng0, (fun x h => by cases h)⟩
      · cases h
    · rename_i hq
      exact absurd rfl (hq a b c t)
theorem parseOut_fit (l : List UInt8) (hl : l.length ≤ 40000) : (parseOut l).1.fit ∧ (parseOut l).1.num := by
  unfold parseOut
  split
  · exact parseJ_fit l (by omega)
  · refine ⟨⟨by simp, by simp [RefL.fit, noRefL]⟩, ?_⟩
    unfold InstL.num
    simp
theorem fine_modify {ms : List MethS} (h : ∀ m, m ∈ ms → m.fine) (i : Nat) (f : MethS → MethS) (hf : ∀ m : MethS, m.fine → (f m).fine) : ∀ m, m ∈ ms.modify i f → m.fine := by
  intro m hm
  obtain ⟨j, hj, rfl⟩ := List.getElem_of_mem hm
  have hj' : j < ms.length := by simpa using hj
  rw [List.getElem_modify]
  have h1 := h _ (List.getElem_mem hj')
  split
  · exact hf _ h1
  · exact h1
theorem fine_snoc {ms : List MethS} (h : ∀ m, m ∈ ms → m.fine) {m : MethS} (hm : m.fine) : ∀ x, x ∈ ms ++ [m] → x.fine := fun x hx => by
  rcases List.mem_append.1 hx with hx | hx
  · exact h x hx
  · simp only [List.mem_singleton] at hx
    rw [hx]; exact hm
theorem step_fine {r r' : RdS} {line : List UInt8} (hw : r.fine) (hl : line.length ≤ 40000) (h : stepL r line = some r') : r'.fine := by
  obtain ⟨h1, h2, h3, h4, h5, h6⟩ := hw
  obtain ⟨nm, sup, ifs, fl, ld, ms, st⟩ := r
  simp only at h1 h2 h3 h4 h5 h6
  unfold stepL at h
  split at h
  · obtain ⟨s, hs, rfl⟩ := Option.map_eq_some_iff.1 h
    exact ⟨namedP_len hs hl, h2, h3, h4, h5, h6⟩
  · obtain ⟨s, hs, rfl⟩ := Option.map_eq_some_iff.1 h
    exact ⟨h1, namedP_len hs hl, h3, h4, h5, h6⟩
  · split at h
    · rename_i s hs
      cases h
      refine ⟨h1, h2, fun x hx => ?_, h4, h5, h6⟩
      rcases List.mem_append.1 hx with hx | hx
      · exact h3 x hx
      · simp only [List.mem_singleton] at hx
        rw [hx]; exact namedP_len hs hl
    · obtain ⟨s, hs, rfl⟩ := Option.map_eq_some_iff.1 h
      exact ⟨h1, h2, h3, clsFlagsP_rng hs, h5, h6⟩
  · obtain ⟨s, hs, rfl⟩ := Option.map_eq_some_iff.1 h
    exact ⟨h1, h2, h3, h4, numberedP_rng hs, h6⟩
  · split at h
    · cases h
      exact ⟨h1, h2, h3, h4, h5, h6⟩
    · obtain ⟨m, hm, rfl⟩ := Option.map_eq_some_iff.1 h
      exact ⟨h1, h2, h3, h4, h5, fine_snoc h6 (beginP_fine hm hl)⟩
  · obtain ⟨n, hn, rfl⟩ := Option.map_eq_some_iff.1 h
    exact ⟨h1, h2, h3, h4, h5, fine_modify h6 _ _ (fun m hm => ⟨hm.nm, hm.ds, hm.fl, numberedP_rng hn, hm.st, hm.ins⟩)⟩
  · obtain ⟨n, hn, rfl⟩ := Option.map_eq_some_iff.1 h
    exact ⟨h1, h2, h3, h4, h5, fine_modify h6 _ _ (fun m hm => ⟨hm.nm, hm.ds, hm.fl, hm.lo, numberedP_rng hn, hm.ins⟩)⟩
  · split at h
    · cases h
      exact ⟨h1, h2, h3, h4, h5, h6⟩
    · split at h
      · rename_i m hm
        cases h
        exact ⟨h1, h2, h3, h4, h5, fine_snoc h6 (beginP_fine hm hl)⟩
      · split at h
        · cases h
          refine ⟨h1, h2, h3, h4, h5, fine_modify h6 _ _ (fun m hm => ⟨hm.nm, hm.ds, hm.fl, hm.lo, hm.st, fun i hi => ?_⟩)⟩
          rcases List.mem_append.1 hi with hi | hi
          · exact hm.ins i hi
          · simp only [List.mem_singleton] at hi
            rw [hi]; exact parseOut_fit line hl
        · cases h
  · cases h
theorem read_fine : ∀ (ls : List (List UInt8)) (r : RdS) (n k : Nat) (r' : RdS), (∀ x, x ∈ ls → x.length ≤ 40000) → r.fine → r.wf k → readL r ls n = .inl r' → r'.fine ∧ r'.st = 8 ∧ ∃ k', k' ≤ k + ls.length ∧ r'.wf k'
  | [], _, _, _, _, _, _, _, h => by cases h
  | [x], r, n, k, r', _, hf, hw, h => by
    unfold readL at h
    split at h
    · rename_i hc
      cases h
      exact ⟨hf, hc.2, k, by omega, hw⟩
    · cases h
  | x :: y :: t, r, n, k, r', hx, hf, hw, h => by
    rw [readL] at h
    cases hs : stepL r x with
    | none => rw [hs] at h; cases h
    | some r1 =>
      rw [hs] at h
      obtain ⟨h1, h2, k', h3, h4⟩ := read_fine (y :: t) r1 (n + 1) (k + 1) r' (fun z hz => hx z (List.mem_cons_of_mem _ hz)) (step_fine hf (hx x (by simp)) hs) (step_wf hw hs) h
      exact ⟨h1, h2, k', by simp at h3 ⊢; omega, h4⟩

/-! ### The class -/
def addrV : Value → Option Addr
  | .slice A _ _ => A
  | _ => none
def capV : Value → Nat
  | .slice _ _ c => c
  | _ => 0
def methOf (m : MethS) (c : Value) : MethL := ⟨m.nm, m.ds, m.fl, m.lo, m.st, addrV c, capV c, m.code⟩
def clsOf (r : RdS) (vi vm : Value) (cs : List Value) : ClassL := ⟨r.nm, r.sup, addrV vi, capV vi, r.ifs, r.fl, r.ld, addrV vm, capV vm, List.zipWith methOf r.ms cs⟩
def methS0 (m : MethS) : MethL := ⟨m.nm, m.ds, m.fl, m.lo, m.st, none, 0, m.code⟩
/-- The class without its places. -/
def clsS (r : RdS) : ClassL := ⟨r.nm, r.sup, none, 0, r.ifs, r.fl, r.ld, none, 0, r.ms.map methS0⟩

theorem find_same (nm ds : List UInt8) : ∀ (ms : List MethS) (cs : List Value) (k : Nat), ms.length = cs.length → findL nm ds (List.zipWith methOf ms cs) k = findL nm ds (ms.map methS0) k
  | [], [], _, _ => rfl
  | m :: ms, c :: cs, k, h => by
    have ih := find_same nm ds ms cs (k + 1) (by simpa using h)
    show (if hitB nm ds (methOf m c) then (k : Int) else findL nm ds (List.zipWith methOf ms cs) (k + 1)) = if hitB nm ds (methS0 m) then (k : Int) else findL nm ds (ms.map methS0) (k + 1)
    rw [ih]
    rfl
  | [], c :: cs, _, h => by simp at h
  | m :: ms, [], _, h => by simp at h
theorem check_same (r : RdS) (vi vm : Value) (cs : List Value) (h : r.ms.length = cs.length) : checkB (clsOf r vi vm cs) = checkB (clsS r) := by
  have hl : (List.zipWith methOf r.ms cs).length = (r.ms.map methS0).length := by simp [h]
  have hg : ∀ i, goodB (clsOf r vi vm cs) i = goodB (clsS r) i := fun i => by
    unfold goodB clsOf clsS
    simp only
    by_cases hi : i < r.ms.length
    · rw [List.getElem?_zipWith, List.getElem?_map, List.getElem?_eq_getElem hi, List.getElem?_eq_getElem (show i < cs.length by omega)]
      simp only [Option.map_some]
      rw [find_same _ _ _ _ _ h]
      rfl
    · rw [List.getElem?_eq_none (by simp; omega), List.getElem?_eq_none (by simp; omega)]
  unfold checkB
  rw [show goodB (clsOf r vi vm cs) = goodB (clsS r) from funext hg, show (clsOf r vi vm cs).ms.length = (clsS r).ms.length from hl]
  rfl

/-! ### The class in memory -/
theorem own_slice' {w : World} {base : Nat} {e : TypeId} {size n : Nat} {v : Value} {xs : List Value} (h : w.ownsRow base e size v n xs) : v = .slice (addrV v) n (capV v) ∧ n ≤ capV v := by
  obtain ⟨A, cap, rfl, h1, -⟩ := own_slice h
  exact ⟨rfl, h1⟩
theorem own_at {w : World} {e : TypeId} {size n : Nat} {v : Value} {xs : List Value} (h : w.ownsRow 0 e size v n xs) (hn : 0 < n) : ∃ g, addrV v = some ⟨g, 0, none⟩ ∧ g < w.heap.size ∧ ∀ i, i < n * size → w.cell? ⟨g, i, none⟩ = xs[i]? := by
  rcases h.2 with ⟨_, h1⟩ | ⟨g, cap, cur, rfl, hb, hg, h1, h2, h3, h4⟩
  · omega
  · refine ⟨g, rfl, (Array.getElem?_eq_some_iff.1 hg).1, fun i hi => ?_⟩
    rw [cell_of_row w g i cur e (0, 0) hg, ← h4, List.getElem?_take]
    simp [hi]
theorem instV_get : ∀ (l : List InstL) (i : Nat) (h : i < l.length) (j : Nat), j < 7 → (instV l)[i * 7 + j]? = l[i].cells[j]?
  | x :: l, 0, _, j, hj => by
    show (x.cells.toList ++ instV l)[0 * 7 + j]? = _
    rw [List.getElem?_append_left (by show 0 * 7 + j < 7; omega)]
    simp
  | x :: l, i + 1, h, j, hj => by
    show (x.cells.toList ++ instV l)[(i + 1) * 7 + j]? = _
    rw [List.getElem?_append_right (by show 7 ≤ (i + 1) * 7 + j; omega), show (i + 1) * 7 + j - x.cells.toList.length = i * 7 + j by show (i + 1) * 7 + j - 7 = _; omega]
    exact instV_get l i (by simpa using h) j hj
  | [], i, h, _, _ => absurd h (by simp)
theorem Lists.insts {w : World} {n0 : Nat} {r : RdS} {vi vm : Value} {cs : List Value} (h : Lists w n0 r vi vm cs) (i : Nat) (hi : i < cs.length) : InstsAt w (addrV cs[i]) (codeOf r.ms i) := by
  intro hne
  have hpos : 0 < (codeOf r.ms i).length := List.length_pos_iff.2 hne
  obtain ⟨g, h1, h2, h3⟩ := own_at (h.oc i hi) hpos
  refine ⟨g, 0, h1, h2, fun k hk j hj => ?_⟩
  rw [Nat.zero_add, h3 _ (by omega), instV_get _ k hk j hj]
theorem codeOf_get {ms : List MethS} {i : Nat} (h : i < ms.length) : codeOf ms i = ms[i].code := by
  unfold codeOf
  rw [List.getElem?_eq_getElem h]
  rfl
theorem Lists.fit {w : World} {n0 : Nat} {r : RdS} {vi vm : Value} {cs : List Value} (h : Lists w n0 r vi vm cs) (hf : r.fine) {k : Nat} (hw : r.wf k) (hk : k ≤ 1000000) : (clsOf r vi vm cs).fit w := by
  have hlen := h.len
  obtain ⟨ei, ci⟩ := own_slice' h.oi
  obtain ⟨em, cm⟩ := own_slice' h.om
  refine ⟨Nat.le_trans hf.nm (by omega), Nat.le_trans hf.sup (by omega), ?_, ci, ?_, fun x hx => Nat.le_trans (hf.ifs x hx) (by omega), ?_, ?_, ?_, ?_, hf.fl, hf.ld⟩
  · intro hne
    have hpos : 0 < r.ifs.length := List.length_pos_iff.2 hne
    obtain ⟨g, h1, h2, h3⟩ := own_at h.oi hpos
    refine ⟨g, 0, h1, h2, fun i hi => ?_⟩
    have hi' : i < r.ifs.length := hi
    rw [Nat.zero_add, h3 i (by omega), List.getElem?_map, List.getElem?_eq_getElem hi']
    rfl
  · show r.ifs.length ≤ _
    have := hw.ifs
    omega
  · intro hne
    have hpos : 0 < r.ms.length := by
      cases hr : r.ms with
      | nil => exact absurd (by show List.zipWith methOf r.ms cs = []; rw [hr]; rfl) hne
      | cons a t => simp
    obtain ⟨g, h1, h2, h3⟩ := own_at h.om hpos
    refine ⟨g, 0, h1, h2, fun i hi j hj => ?_⟩
    have hi' : i < r.ms.length := by
      have : i < (List.zipWith methOf r.ms cs).length := hi
      simp at this
      omega
    rw [Nat.zero_add, h3 _ (by omega), methRows_get i hi' (by omega) j hj]
    have e2 : (clsOf r vi vm cs).ms[i]'hi = methOf r.ms[i] cs[i] := List.getElem_zipWith
    rw [e2]
    obtain ⟨e1, -⟩ := own_slice' (h.oc i (by omega))
    rw [codeOf_get hi'] at e1
    unfold methRow methOf MethL.cells
    simp only
    rw [← e1]
    simp
  · show (List.zipWith methOf r.ms cs).length ≤ capV vm
    rw [List.length_zipWith]
    exact Nat.le_trans (Nat.min_le_left _ _) cm
  · show (List.zipWith methOf r.ms cs).length ≤ _
    have := hw.ms
    rw [List.length_zipWith]
    exact Nat.le_trans (Nat.min_le_left _ _) (by omega)
  · intro m hm
    obtain ⟨i, hi, rfl⟩ := List.getElem_of_mem (show m ∈ List.zipWith methOf r.ms cs from hm)
    have hi' : i < r.ms.length := by simp at hi; omega
    rw [List.getElem_zipWith]
    have h1 := hf.ms _ (List.getElem_mem hi')
    obtain ⟨e1, c1⟩ := own_slice' (h.oc i (by omega))
    have h2 := h.insts i (by omega)
    rw [codeOf_get hi'] at e1 c1 h2
    have h3 := hw.code _ (List.getElem_mem hi')
    exact ⟨h2, c1, fun x hx => (h1.ins x hx).1, fun x hx => (h1.ins x hx).2, by show r.ms[i].code.length ≤ _; omega, Nat.le_trans h1.nm (by omega), Nat.le_trans h1.ds (by omega), h1.fl, h1.lo, h1.st⟩
theorem Lists.val {w : World} {n0 : Nat} {r : RdS} {vi vm : Value} {cs : List Value} (h : Lists w n0 r vi vm cs) : (clsOf r vi vm cs).v = .agg #[.string (bs r.nm), .string (bs r.sup), vi, .int .i64 r.fl, .int .i64 r.ld, vm] := by
  obtain ⟨ei, ci⟩ := own_slice' h.oi
  obtain ⟨em, cm⟩ := own_slice' h.om
  have hlen := h.len
  unfold ClassL.v ClassL.cells clsOf
  simp only
  rw [← ei, show (List.zipWith methOf r.ms cs).length = r.ms.length by simp; omega, ← em]
end Go.Proofs.YtfpdeiefkimaaaaGreatDoor
/-
  shapes.Parse, walked.
-/
set_option linter.unusedSimpArgs false
set_option linter.unusedVariables false
namespace Go.Proofs.YtfpdeiefkimaaaaGreatDoor
open Go.RowKit Go.Sort

/-- What a text says: a class; or the line at fault, and the error. -/
def textO (l : List UInt8) : RdS ⊕ (Nat × Int) :=
  if 40000 < l.length then .inr (0, 5) else
  match readL rd0 (splitL 10 l) 1 with
  | .inr n => .inr (n, 4)
  | .inl r => if checkB (clsS r) then .inl r else .inr (0, 1)
def zeroCls : Value := .agg #[.string ⟨#[]⟩, .string ⟨#[]⟩, .slice none 0 0, .int .i64 0, .int .i64 0, .slice none 0 0]
def textPost (l : List UInt8) (w : World) (e : Ending) (w' : World) : Prop := (match textO l with
  | .inl r => ∃ vi vm cs, e = .returned (.tuple #[.agg #[.string (bs r.nm), .string (bs r.sup), vi, .int .i64 r.fl, .int .i64 r.ld, vm], .int .i64 0, .int .i64 0]) ∧ Lists w' w.heap.size r vi vm cs ∧ r.fine ∧ ∃ k, k ≤ 40001 ∧ r.wf k
  | .inr x => e = .returned (.tuple #[zeroCls, .int .i64 x.1, .int .i64 x.2])) ∧ Upd w w' []
theorem lines_le (l : List UInt8) : (splitL 10 l).length ≤ l.length + 1 := by
  rw [splitL_length]
  have := List.count_le_length (a := (10 : UInt8)) (l := l)
  omega

theorem undClass : ∃ f, Tryz.prog.underlying 46 = some (.struct f) := by
  have h : (match Tryz.prog.underlying 46 with | some (.struct _) => true | _ => false) = true := by kernel_rfl
  revert h
  generalize Tryz.prog.underlying 46 = u
  intro h
  match u, h with
  | some (.struct f), _ => exact ⟨f, rfl⟩
theorem own_setRow {w : World} {base : Nat} {e : TypeId} {size n b : Nat} {v : Value} {xs : List Value} (h : w.ownsRow base e size v n xs) (hne : v.ownBlock ≠ some b) (cs : Array Value) : (w.setRow b cs).ownsRow base e size v n xs := by
  obtain ⟨h1, h2⟩ := h
  rcases h2 with h2 | ⟨g, cap, cur, rfl, hb, hg, hr⟩
  · exact ⟨h1, .inl h2⟩
  · exact ⟨h1, .inr ⟨g, cap, cur, rfl, hb, (setRow_other w b g cs (by rintro rfl; exact hne rfl)).trans hg, hr⟩⟩
theorem Lists.farRow {w : World} {n0 : Nat} {r : RdS} {vi vm : Value} {cs : List Value} (h : Lists w n0 r vi vm cs) {b : Nat} {xs : Array Value} (hb : Blk w b 46 xs) (ys : Array Value) : Lists (w.setRow b ys) n0 r vi vm cs :=
  ⟨h.len, own_setRow h.oi (own_blk_ne h.oi hb ne_sc) ys, own_setRow h.om (own_blk_ne h.om hb ne_mc) ys, fun i hi => own_setRow (h.oc i hi) (own_blk_ne (h.oc i hi) hb ne_ic) ys, h.bi, h.bm, h.bc, h.dis⟩
theorem blk_drew {w : World} {g : Nat} {t : TypeId} {cs cs' : Array Value} (h : Blk w g t cs) (e : cs = cs') : Blk w.drew g t cs' := by subst e; exact h
theorem sizeClass : (Tryz.prog.info? 46).map (·.size) = some 6 := by kernel_rfl
theorem setRow_far {w : World} {g k : Nat} {t : TypeId} {cs : Array Value} (h : Blk w g t cs) (hne : g ≠ k) (cs' : Array Value) : Blk (w.setRow k cs') g t cs := (setRow_other w k g cs' hne).trans h
theorem asF_any (rb fb : Nat) (wx : World) (hg : wx.cell? ⟨0, 0, none⟩ = some (.iface 205 (.agg #[.pointer (some ⟨9, 59, none⟩)]))) (hr : Blk wx rb 154 #[.iface 107 (.pointer (some ⟨fb, 0, none⟩))]) :
    Calls Tryz.prog 57 #[.iface 152 (.pointer (some ⟨rb, 0, none⟩)), .iface 109 (.pointer (some ⟨wx.heap.size, 0, none⟩))] (wx.alloc (.cells #[.pointer none] 107)) fun e w' => e = .returned (.bool true) ∧ Blk w' wx.heap.size 107 #[.pointer (some ⟨fb, 0, none⟩)] ∧ (∀ g t cs, g < wx.heap.size → Blk wx g t cs → Blk w' g t cs) ∧ Upd wx w' [] := by
  have hlt : 0 < wx.heap.size := by
    rcases Nat.eq_zero_or_pos wx.heap.size with h0 | h
    · simp [World.cell?, h0] at hg
    · exact h
  have hb := Blk.new wx 107 #[.pointer none]
  refine (as_any rb fb ⟨wx.heap.size, 0, none⟩ (.pointer none) _ (by rw [World.cell?_alloc_lt _ _ ⟨0, 0, none⟩ hlt]; exact hg) (hb.cell 0) (hb.frozen 0) (hr.alloc _)).mono ?_
  rintro e w2 ⟨rfl, rfl⟩
  refine ⟨rfl, ((((hb.alloc _).alloc _).alloc _).alloc _).set_ 0 _, fun g t cs hlt h => ?_, ?_⟩
  · exact (((((h.alloc _).alloc _).alloc _).alloc _).alloc _).far (by show g ≠ wx.heap.size; omega) _
  · exact ((((((Upd.refl wx []).alloc _).alloc _).alloc _).alloc _).alloc _).setCell (.inr (Nat.le_refl _)) _

set_option maxHeartbeats 8000000 in
set_option maxRecDepth 100000 in
theorem parseCls_any (l : List UInt8) (w : World) (hl : l.length ≤ 9000000000000000000) (hm : Rdy w) (he : ErrsAt w) (hg : w.cell? ⟨0, 0, none⟩ = some (.iface 205 (.agg #[.pointer (some ⟨9, 59, none⟩)]))) :
    Calls Tryz.prog 26 #[.string (bs l)] w (textPost l w) := by
  have HM := hid hm
  have HE := hid he
  have HG := hid hg
  obtain ⟨O, hO⟩ : ∃ O, textO l = O := ⟨_, rfl⟩
  unfold textPost
  rw [hO]
  unfold textO at hO
  have hs := bs_size l
  clear hm he hg
  by_cases hbig : 40000 < l.length
  · rw [if_pos hbig] at hO
    subst hO
    have hb2 : ¬ (l.length : Int) ≤ 40000 := by omega
    have hb3 : (40000 : Int) < (l.length : Int) := by omega
    have HC := hid (Blk.new w 46 #[.string ⟨#[]⟩, .string ⟨#[]⟩, .slice none 0 0, .int .i64 0, .int .i64 0, .slice none 0 0])
    have HU := hid (show Upd w (w.alloc (.cells #[.string ⟨#[]⟩, .string ⟨#[]⟩, .slice none 0 0, .int .i64 0, .int .i64 0, .slice none 0 0] 46)) [] from (Upd.refl _ _).alloc _)
    clear hbig
    go_enter Tryz.func26, Tryz.ntmps26
    go_wp2
    revert HC HU
    generalize (w.alloc (.cells #[.string ⟨#[]⟩, .string ⟨#[]⟩, .slice none 0 0, .int .i64 0, .int .i64 0, .slice none 0 0] 46)) = wf
    intro HC HU
    have g0 := (HC.out.cell 0).trans (show _ = some (.string ⟨#[]⟩) from rfl)
    have g1 := (HC.out.cell 1).trans (show _ = some (.string ⟨#[]⟩) from rfl)
    have g2 := (HC.out.cell 2).trans (show _ = some (.slice none 0 0) from rfl)
    have g3 := (HC.out.cell 3).trans (show _ = some (.int .i64 0) from rfl)
    have g4 := (HC.out.cell 4).trans (show _ = some (.int .i64 0) from rfl)
    have g5 := (HC.out.cell 5).trans (show _ = some (.slice none 0 0) from rfl)
    refine bodyPost_ret (v := .tuple #[.agg #[.string ⟨#[]⟩, .string ⟨#[]⟩, .slice none 0 0, .int .i64 0, .int .i64 0, .slice none 0 0], .int .i64 0, .int .i64 5]) (by simp [results, Tryz.results26, go_sem, g0, g1, g2, g3, g4, g5]) rfl ?_
    exact ⟨rfl, HU.out⟩
  · rw [if_neg hbig] at hO
    have hb2 : (l.length : Int) ≤ 40000 := by omega
    have hb3 : ¬ (40000 : Int) < (l.length : Int) := by omega
    have HC := hid (Blk.new w 46 #[.string ⟨#[]⟩, .string ⟨#[]⟩, .slice none 0 0, .int .i64 0, .int .i64 0, .slice none 0 0])
    have HU := hid (show Upd w (w.alloc (.cells #[.string ⟨#[]⟩, .string ⟨#[]⟩, .slice none 0 0, .int .i64 0, .int .i64 0, .slice none 0 0] 46)) [] from (Upd.refl _ _).alloc _)
    have hsA : (w.alloc (.cells #[.string ⟨#[]⟩, .string ⟨#[]⟩, .slice none 0 0, .int .i64 0, .int .i64 0, .slice none 0 0] 46)).heap.size = w.heap.size + 1 := by simp
    have HM1 := hid (HM.out.upd HU.out)
    have HE1 := hid (HE.out.upd HU.out)
    have Hrd := hid (readCls_any l (w.alloc (.cells #[.string ⟨#[]⟩, .string ⟨#[]⟩, .slice none 0 0, .int .i64 0, .int .i64 0, .slice none 0 0] 46)) (by omega) HM1.out HE1.out)
    go_enter Tryz.func26, Tryz.ntmps26
    go_wp2_with fail
    refine Hrd.out.mono ?_
    intro e w1 hp
    unfold readOutPost at hp
    clear Hrd HM1 HE1
    cases hr : readL rd0 (splitL 10 l) 1 with
    | inr n =>
      rw [hr] at hp hO
      subst hO
      simp only at hp
      obtain ⟨s0, s1, A1, n1, c1, f1, d1, A2, n2, c2, ev, rfl, ⟨rb, fb, rfl, hRb, hFb⟩, hU1⟩ := hp
      have HC1 := hid (hU1.blk HC.out (by simp))
      have HU1 := hid (HU.out.trans hU1)
      have HRb := hid hRb
      have HFb := hid hFb
      have hz1 : w.heap.size < w1.heap.size := by have := hU1.size; omega
      clear hRb hFb hU1 hr hbig hb2 hb3 hs
      have hlc := HC1.out.lt
      generalize (w.alloc (.cells #[.string ⟨#[]⟩, .string ⟨#[]⟩, .slice none 0 0, .int .i64 0, .int .i64 0, .slice none 0 0] 46)) = wA at hsA
      have z0 := (HC1.out.cell 0).trans (show _ = some (.string ⟨#[]⟩) from rfl)
      have z1 := (HC1.out.cell 1).trans (show _ = some (.string ⟨#[]⟩) from rfl)
      have z2 := (HC1.out.cell 2).trans (show _ = some (.slice none 0 0) from rfl)
      have z3 := (HC1.out.cell 3).trans (show _ = some (.int .i64 0) from rfl)
      have z4 := (HC1.out.cell 4).trans (show _ = some (.int .i64 0) from rfl)
      have z5 := (HC1.out.cell 5).trans (show _ = some (.slice none 0 0) from rfl)
      have v0 := HC1.out.frozen 0
      have v1 := HC1.out.frozen 1
      have v2 := HC1.out.frozen 2
      have v3 := HC1.out.frozen 3
      have v4 := HC1.out.frozen 4
      have v5 := HC1.out.frozen 5
      simp only []
      go_at_K
      iterate 10 (go_step)
      refine wpList_store_row rfl 46 _ _ rfl w.heap.size #[.string s0, .string s1, .slice A1 n1 c1, .int .i64 f1, .int .i64 d1, .slice A2 n2 c2] (by kernel_rfl) (by kernel_rfl) 46 #[.string ⟨#[]⟩, .string ⟨#[]⟩, .slice none 0 0, .int .i64 0, .int .i64 0, .slice none 0 0] HC1.out sizeClass rfl (by kernel_rfl) ?_
      have HCx := hid (setRow_blk HC1.out (#[.string s0, .string s1, .slice A1 n1 c1, .int .i64 f1, .int .i64 d1, .slice A2 n2 c2] : Array Value))
      have HUx := hid (setRow_upd HU1.out (Nat.le_refl _) (#[.string s0, .string s1, .slice A1 n1 c1, .int .i64 f1, .int .i64 d1, .slice A2 n2 c2] : Array Value))
      have HRx := hid (setRow_far HRb.out (HRb.out.ne_ HC1.out (by decide)) (#[.string s0, .string s1, .slice A1 n1 c1, .int .i64 f1, .int .i64 d1, .slice A2 n2 c2] : Array Value))
      have HFx := hid (setRow_far HFb.out (HFb.out.ne_ HC1.out (by decide)) (#[.string s0, .string s1, .slice A1 n1 c1, .int .i64 f1, .int .i64 d1, .slice A2 n2 c2] : Array Value))
      revert HCx HUx HRx HFx
      generalize w1.setRow w.heap.size _ = wx
      intro HCx HUx HRx HFx
      clear HC1 HU1 HRb HFb HC HU hsA hz1 hlc z0 z1 z2 z3 z4 z5 v0 v1 v2 v3 v4 v5
      go_wp2_with fail
      refine (asF_any rb fb wx (by rw [HUx.out.cells.1 0 0 (by have := HG.out; exact World.block_lt_of_cell? w _ this)]; exact HG.out) HRx.out).mono ?_
      rintro e wy ⟨rfl, hTy, hBy, hUy⟩
      have HCy := hid (hBy _ _ _ HCx.out.lt HCx.out)
      have HFy := hid (hBy _ _ _ HFx.out.lt HFx.out)
      have HUy := hid (HUx.out.trans hUy)
      have t0 := (hTy.cell 0).trans (show _ = some (.pointer (some ⟨fb, 0, none⟩)) from rfl)
      have t1 := (HFy.out.cell 0).trans (show _ = some (.int .i64 n) from rfl)
      have hlx := HCx.out.lt
      clear hBy hUy hTy HUx HRx HFx
      have y0 := (HCy.out.cell 0).trans (show _ = some (.string s0) from rfl)
      have y1 := (HCy.out.cell 1).trans (show _ = some (.string s1) from rfl)
      have y2 := (HCy.out.cell 2).trans (show _ = some (.slice A1 n1 c1) from rfl)
      have y3 := (HCy.out.cell 3).trans (show _ = some (.int .i64 f1) from rfl)
      have y4 := (HCy.out.cell 4).trans (show _ = some (.int .i64 d1) from rfl)
      have y5 := (HCy.out.cell 5).trans (show _ = some (.slice A2 n2 c2) from rfl)
      have u0 := HCy.out.frozen 0
      have u1 := HCy.out.frozen 1
      have u2 := HCy.out.frozen 2
      have u3 := HCy.out.frozen 3
      have u4 := HCy.out.frozen 4
      have u5 := HCy.out.frozen 5
      have hne1 : fb ≠ w.heap.size := HFy.out.ne_ HCy.out (by decide)
      have hly := HCy.out.lt
      go_wp2
      go_region
      have HZ := hid (show Blk (((((((wy.setCell ⟨w.heap.size, 0, none⟩ (.string ⟨#[]⟩)).setCell ⟨w.heap.size, 1, none⟩ (.string ⟨#[]⟩)).setCell ⟨w.heap.size, 2, none⟩ (.slice none 0 0)).setCell ⟨w.heap.size, 3, none⟩ (.int .i64 0)).setCell ⟨w.heap.size, 4, none⟩ (.int .i64 0)).setCell ⟨w.heap.size, 5, none⟩ (.slice none 0 0)).drew) w.heap.size 46 #[.string ⟨#[]⟩, .string ⟨#[]⟩, .slice none 0 0, .int .i64 0, .int .i64 0, .slice none 0 0] from blk_drew ((((((HCy.out.set_ 0 (.string ⟨#[]⟩)).set_ 1 (.string ⟨#[]⟩)).set_ 2 (.slice none 0 0)).set_ 3 (.int .i64 0)).set_ 4 (.int .i64 0)).set_ 5 (.slice none 0 0)) (by simp))
      have HV := hid (show Upd w (((((((wy.setCell ⟨w.heap.size, 0, none⟩ (.string ⟨#[]⟩)).setCell ⟨w.heap.size, 1, none⟩ (.string ⟨#[]⟩)).setCell ⟨w.heap.size, 2, none⟩ (.slice none 0 0)).setCell ⟨w.heap.size, 3, none⟩ (.int .i64 0)).setCell ⟨w.heap.size, 4, none⟩ (.int .i64 0)).setCell ⟨w.heap.size, 5, none⟩ (.slice none 0 0)).drew) [] from ((((((HUy.out.setCell (p := ⟨w.heap.size, 0, none⟩) (.inr (Nat.le_refl _)) (.string ⟨#[]⟩)).setCell (p := ⟨w.heap.size, 1, none⟩) (.inr (Nat.le_refl _)) (.string ⟨#[]⟩)).setCell (p := ⟨w.heap.size, 2, none⟩) (.inr (Nat.le_refl _)) (.slice none 0 0)).setCell (p := ⟨w.heap.size, 3, none⟩) (.inr (Nat.le_refl _)) (.int .i64 0)).setCell (p := ⟨w.heap.size, 4, none⟩) (.inr (Nat.le_refl _)) (.int .i64 0)).setCell (p := ⟨w.heap.size, 5, none⟩) (.inr (Nat.le_refl _)) (.slice none 0 0)).drew)
      revert HZ HV
      generalize ((((((wy.setCell ⟨w.heap.size, 0, none⟩ (.string ⟨#[]⟩)).setCell ⟨w.heap.size, 1, none⟩ (.string ⟨#[]⟩)).setCell ⟨w.heap.size, 2, none⟩ (.slice none 0 0)).setCell ⟨w.heap.size, 3, none⟩ (.int .i64 0)).setCell ⟨w.heap.size, 4, none⟩ (.int .i64 0)).setCell ⟨w.heap.size, 5, none⟩ (.slice none 0 0)).drew = wz
      intro HZ HV
      clear HCy HFy HUy t0 t1 y0 y1 y2 y3 y4 y5 u0 u1 u2 u3 u4 u5
      go_wp2
      have g0 := (HZ.out.cell 0).trans (show _ = some (.string ⟨#[]⟩) from rfl)
      have g1 := (HZ.out.cell 1).trans (show _ = some (.string ⟨#[]⟩) from rfl)
      have g2 := (HZ.out.cell 2).trans (show _ = some (.slice none 0 0) from rfl)
      have g3 := (HZ.out.cell 3).trans (show _ = some (.int .i64 0) from rfl)
      have g4 := (HZ.out.cell 4).trans (show _ = some (.int .i64 0) from rfl)
      have g5 := (HZ.out.cell 5).trans (show _ = some (.slice none 0 0) from rfl)
      refine bodyPost_ret (v := .tuple #[.agg #[.string ⟨#[]⟩, .string ⟨#[]⟩, .slice none 0 0, .int .i64 0, .int .i64 0, .slice none 0 0], .int .i64 (n : Int), .int .i64 4]) (by simp [results, Tryz.results26, go_sem, g0, g1, g2, g3, g4, g5]) rfl ?_
      exact ⟨rfl, HV.out⟩
    | inl r =>
      rw [hr] at hp hO
      simp only at hp hO
      obtain ⟨vi, vm, cs, rfl, hL, hU1⟩ := hp
      obtain ⟨hfine, -, k', hk1, hwf⟩ := read_fine (splitL 10 l) rd0 1 0 r (fun x hx => Nat.le_trans (splitL_le 10 l x hx) (by omega)) fine0 wf0 hr
      have hk2 : k' ≤ 40001 := by have := lines_le l; omega
      have HC1 := hid (hU1.blk HC.out (by simp))
      have HU1 := hid (HU.out.trans hU1)
      have HL := hid (hL.mono (n1 := w.heap.size) (by omega))
      have hck := check_same r vi vm cs hL.len
      have hval := hL.val
      have Hck := fun W hf hm => hid (check5_any (clsOf r vi vm cs) W hf hm)
      rw [hval, hck] at Hck
      have HF := hid (show ∀ W, Lists W w.heap.size r vi vm cs → (clsOf r vi vm cs).fit W from fun W hW => hW.fit hfine hwf (by omega))
      have HW := hid (show r.fine ∧ ∃ k, k ≤ 40001 ∧ r.wf k from ⟨hfine, k', hk2, hwf⟩)
      obtain ⟨A1, cc1, rfl, -, -⟩ := own_slice hL.oi
      obtain ⟨A2, cc2, rfl, -, -⟩ := own_slice hL.om
      clear hL hU1 hfine hwf hk1 hk2 hck hval hr hbig hb2 hb3 hs HC HU hsA
      have hlc := HC1.out.lt
      simp only []
      go_at_K
      iterate 10 (go_step)
      refine wpList_store_row rfl 46 _ _ rfl w.heap.size #[.string (bs r.nm), .string (bs r.sup), .slice A1 r.ifs.length cc1, .int .i64 r.fl, .int .i64 r.ld, .slice A2 r.ms.length cc2] (by kernel_rfl) (by kernel_rfl) 46 #[.string ⟨#[]⟩, .string ⟨#[]⟩, .slice none 0 0, .int .i64 0, .int .i64 0, .slice none 0 0] HC1.out sizeClass rfl (by kernel_rfl) ?_
      have HCx := hid (setRow_blk HC1.out (#[.string (bs r.nm), .string (bs r.sup), .slice A1 r.ifs.length cc1, .int .i64 r.fl, .int .i64 r.ld, .slice A2 r.ms.length cc2] : Array Value))
      have HUx := hid (setRow_upd HU1.out (Nat.le_refl _) (#[.string (bs r.nm), .string (bs r.sup), .slice A1 r.ifs.length cc1, .int .i64 r.fl, .int .i64 r.ld, .slice A2 r.ms.length cc2] : Array Value))
      have HLx := hid (HL.out.farRow HC1.out (#[.string (bs r.nm), .string (bs r.sup), .slice A1 r.ifs.length cc1, .int .i64 r.fl, .int .i64 r.ld, .slice A2 r.ms.length cc2] : Array Value))
      revert HCx HUx HLx
      generalize w1.setRow w.heap.size _ = wx
      intro HCx HUx HLx
      clear HC1 HU1 HL hlc
      go_wp2_with fail
      refine (as_nil _ _).mono ?_
      rintro e w2 ⟨rfl, rfl⟩
      have HCy := hid (HCx.out.alloc (.cells #[.pointer none] 107))
      have HLy := hid (HLx.out.upd ((Upd.refl wx []).alloc (.cells #[.pointer none] 107)))
      have HUy := hid (HUx.out.alloc (.cells #[.pointer none] 107))
      revert HCy HLy HUy
      generalize wx.alloc (.cells #[.pointer none] 107) = wy
      intro HCy HLy HUy
      clear HCx HLx HUx
      have y0 := (HCy.out.cell 0).trans (show _ = some (.string (bs r.nm)) from rfl)
      have y1 := (HCy.out.cell 1).trans (show _ = some (.string (bs r.sup)) from rfl)
      have y2 := (HCy.out.cell 2).trans (show _ = some (.slice A1 r.ifs.length cc1) from rfl)
      have y3 := (HCy.out.cell 3).trans (show _ = some (.int .i64 r.fl) from rfl)
      have y4 := (HCy.out.cell 4).trans (show _ = some (.int .i64 r.ld) from rfl)
      have y5 := (HCy.out.cell 5).trans (show _ = some (.slice A2 r.ms.length cc2) from rfl)
      have u0 := HCy.out.frozen 0
      have u1 := HCy.out.frozen 1
      have u2 := HCy.out.frozen 2
      have u3 := HCy.out.frozen 3
      have u4 := HCy.out.frozen 4
      have u5 := HCy.out.frozen 5
      have hly := HCy.out.lt
      go_wp2_with fail
      refine (Hck _ (HF.out _ HLy.out) (HM.out.upd HUy.out).max).out.mono ?_
      rintro e w3 ⟨rfl, hU3⟩
      have HC3 := hid (hU3.blk HCy.out (by simp))
      have HL3 := hid (HLy.out.upd hU3)
      have HU3 := hid (HUy.out.trans hU3)
      clear hU3 Hck HF HLy HUy HCy y0 y1 y2 y3 y4 y5 u0 u1 u2 u3 u4 u5 hly
      have hlz := HC3.out.lt
      cases hc : checkB (clsS r) with
      | false =>
        have hOn : O = .inr (0, 1) := by rw [← hO, hc]; rfl
        subst hOn
        clear hO
        simp only [errIf]
        go_upto_region 9 with (fail)
        apply wp_region_lit
        refine wpList_build rfl 46 #[] rfl (by kernel_rfl) ?_
        iterate 3 (go_step)
        refine wpList_store_row rfl 46 _ _ rfl w.heap.size #[.string ⟨#[]⟩, .string ⟨#[]⟩, .slice none 0 0, .int .i64 0, .int .i64 0, .slice none 0 0] (by kernel_rfl) (by kernel_rfl) 46 #[.string (bs r.nm), .string (bs r.sup), .slice A1 r.ifs.length cc1, .int .i64 r.fl, .int .i64 r.ld, .slice A2 r.ms.length cc2] HC3.out sizeClass rfl (by kernel_rfl) ?_
        have HZ := hid (setRow_blk HC3.out (#[.string ⟨#[]⟩, .string ⟨#[]⟩, .slice none 0 0, .int .i64 0, .int .i64 0, .slice none 0 0] : Array Value))
        have HV := hid (setRow_upd HU3.out (Nat.le_refl _) (#[.string ⟨#[]⟩, .string ⟨#[]⟩, .slice none 0 0, .int .i64 0, .int .i64 0, .slice none 0 0] : Array Value))
        revert HZ HV
        generalize w3.setRow w.heap.size _ = wz
        intro HZ HV
        clear HC3 HL3 HU3 hlz
        go_wp2
        have g0 := (HZ.out.cell 0).trans (show _ = some (.string ⟨#[]⟩) from rfl)
        have g1 := (HZ.out.cell 1).trans (show _ = some (.string ⟨#[]⟩) from rfl)
        have g2 := (HZ.out.cell 2).trans (show _ = some (.slice none 0 0) from rfl)
        have g3 := (HZ.out.cell 3).trans (show _ = some (.int .i64 0) from rfl)
        have g4 := (HZ.out.cell 4).trans (show _ = some (.int .i64 0) from rfl)
        have g5 := (HZ.out.cell 5).trans (show _ = some (.slice none 0 0) from rfl)
        refine bodyPost_ret (v := .tuple #[.agg #[.string ⟨#[]⟩, .string ⟨#[]⟩, .slice none 0 0, .int .i64 0, .int .i64 0, .slice none 0 0], .int .i64 0, .int .i64 1]) (by simp [results, Tryz.results26, go_sem, g0, g1, g2, g3, g4, g5]) rfl ?_
        exact ⟨rfl, HV.out⟩
      | true =>
        have hOn : O = .inl r := by rw [← hO, hc]; rfl
        subst hOn
        clear hO
        simp only [errIf]
        go_upto_region 10 with (fail)
        apply wp_region_lit
        obtain ⟨fC, hfC⟩ := undClass
        refine wpList_load_row rfl 46 _ rfl w.heap.size (by kernel_rfl) 46 _ _ (.struct fC) HC3.out hfC rfl (by kernel_rfl) ?_
        refine wpList_store_row rfl 46 _ _ rfl w.heap.size #[.string (bs r.nm), .string (bs r.sup), .slice A1 r.ifs.length cc1, .int .i64 r.fl, .int .i64 r.ld, .slice A2 r.ms.length cc2] (by kernel_rfl) (by kernel_rfl) 46 #[.string (bs r.nm), .string (bs r.sup), .slice A1 r.ifs.length cc1, .int .i64 r.fl, .int .i64 r.ld, .slice A2 r.ms.length cc2] HC3.out sizeClass rfl (by kernel_rfl) ?_
        have HZ := hid (setRow_blk HC3.out (#[.string (bs r.nm), .string (bs r.sup), .slice A1 r.ifs.length cc1, .int .i64 r.fl, .int .i64 r.ld, .slice A2 r.ms.length cc2] : Array Value))
        have HV := hid (setRow_upd HU3.out (Nat.le_refl _) (#[.string (bs r.nm), .string (bs r.sup), .slice A1 r.ifs.length cc1, .int .i64 r.fl, .int .i64 r.ld, .slice A2 r.ms.length cc2] : Array Value))
        have HLZ := hid (HL3.out.farRow HC3.out (#[.string (bs r.nm), .string (bs r.sup), .slice A1 r.ifs.length cc1, .int .i64 r.fl, .int .i64 r.ld, .slice A2 r.ms.length cc2] : Array Value))
        revert HZ HV HLZ
        generalize w3.setRow w.heap.size _ = wz
        intro HZ HV HLZ
        clear HC3 HL3 HU3 hlz hfC
        go_wp2
        have g0 := (HZ.out.cell 0).trans (show _ = some (.string (bs r.nm)) from rfl)
        have g1 := (HZ.out.cell 1).trans (show _ = some (.string (bs r.sup)) from rfl)
        have g2 := (HZ.out.cell 2).trans (show _ = some (.slice A1 r.ifs.length cc1) from rfl)
        have g3 := (HZ.out.cell 3).trans (show _ = some (.int .i64 r.fl) from rfl)
        have g4 := (HZ.out.cell 4).trans (show _ = some (.int .i64 r.ld) from rfl)
        have g5 := (HZ.out.cell 5).trans (show _ = some (.slice A2 r.ms.length cc2) from rfl)
        refine bodyPost_ret (v := .tuple #[.agg #[.string (bs r.nm), .string (bs r.sup), .slice A1 r.ifs.length cc1, .int .i64 r.fl, .int .i64 r.ld, .slice A2 r.ms.length cc2], .int .i64 0, .int .i64 0]) (by simp [results, Tryz.results26, go_sem, g0, g1, g2, g3, g4, g5]) rfl ?_
        exact ⟨⟨_, _, rfl, ⟨cs, HLZ.out⟩, HW.out⟩, HV.out⟩
end Go.Proofs.YtfpdeiefkimaaaaGreatDoor
/-
  What the document's Parse of a class's text keeps in memory; plain laws.
-/
set_option linter.unusedSimpArgs false
set_option linter.unusedVariables false
namespace Go.Proofs.YtfpdeiefkimaaaaGreatDoor
open Go.RowKit Go.Sort

def clsCells (r : RdS) (vi vm : Value) : Array Value := #[.string (bs r.nm), .string (bs r.sup), vi, .int .i64 r.fl, .int .i64 r.ld, vm]
theorem RowAt.other {w w' : World} {g : Nat} {ps : List (List UInt8)} (h : RowAt w g ps) (hs : w.heap.size ≤ w'.heap.size) (hb : w'.heap[g]? = w.heap[g]?) : RowAt w' g ps :=
  ⟨Nat.lt_of_lt_of_le h.1 hs, fun i hi => (World.cell?_of_block hb).trans (h.2 i hi)⟩
/-- What has been read, as it lies: the class in the first block behind w, its lists behind n0, the lines in block g. -/
structure DocX (w : World) (n0 g : Nat) (ls : List (List UInt8)) (r : RdS) (vi vm : Value) (cs : List Value) (wx : World) : Prop where
  blk : Blk wx w.heap.size 46 (clsCells r vi vm)
  li : Lists wx n0 r vi vm cs
  row : RowAt wx g ls
  os : Upd w wx []
  h1 : w.heap.size < g
  h2 : g < n0
  h3 : n0 ≤ wx.heap.size
section
variable {w wx wy : World} {n0 g : Nat} {ls : List (List UInt8)} {r r' : RdS} {vi vm : Value} {cs : List Value}
theorem DocX.upd (h : DocX w n0 g ls r vi vm cs wx) (u : Upd wx wy []) : DocX w n0 g ls r vi vm cs wy :=
  ⟨u.blk h.blk (by simp), h.li.upd u, h.row.upd u, h.os.trans u, h.h1, h.h2, Nat.le_trans h.h3 u.size⟩
/-- A field of the class is written that is no list. -/
theorem DocX.store (h : DocX w n0 g ls r vi vm cs wx) (j : Nat) (u : Value) (h1 : r'.ifs = r.ifs) (h2 : r'.ms = r.ms) (hc : (clsCells r vi vm).setIfInBounds j u = clsCells r' vi vm) : DocX w n0 g ls r' vi vm cs (wx.setCell ⟨w.heap.size, j, none⟩ u) :=
  ⟨by rw [← hc]; exact h.blk.set_ j u, (h.li.far h.blk ne_sc ne_mc ne_ic j u).same h1 h2, h.row.other (by simp) (Below.heap_setCell _ _ _ _ (by have := h.h1; show g ≠ w.heap.size; omega)), h.os.setCell (.inr (Nat.le_refl _)) u, h.h1, h.h2, by simpa using h.h3⟩
theorem DocX.st (h : DocX w n0 g ls r vi vm cs wx) (h0 : clsCells r' vi vm = clsCells r vi vm) (h1 : r'.ifs = r.ifs) (h2 : r'.ms = r.ms) : DocX w n0 g ls r' vi vm cs wx :=
  ⟨by rw [h0]; exact h.blk, h.li.same h1 h2, h.row, h.os, h.h1, h.h2, h.h3⟩
/-- The list of interfaces has grown, then its new value is written. -/
theorem DocX.iface (h : DocX w n0 g ls r vi vm cs wx) (s : List UInt8) (st : Nat) (g' cap' : Nat) (hg : wx.grownBy wy vi.ownBlock) (ho : wy.ownsRow 0 9 1 (.slice (some ⟨g', 0, none⟩) (r.ifs.length + 1) cap') (r.ifs.length + 1) (r.ifs.map strV ++ [.string (bs s)])) (ha : vi.ownBlock = some g' ∨ g' = wx.heap.size) :
    DocX w n0 g ls { r with ifs := r.ifs ++ [s], st := st } (.slice (some ⟨g', 0, none⟩) (r.ifs.length + 1) cap') vm cs (wy.setCell ⟨w.heap.size, 2, none⟩ (.slice (some ⟨g', 0, none⟩) (r.ifs.length + 1) cap')) := by
  have hlt := h.h1
  have hlt2 := h.h2
  have hlt3 := h.h3
  have hU : Upd w wy [] := h.os.grown hg (fun k hk => .inr (by have := h.li.bi k hk; omega))
  have hB := h.blk.grown_own hg h.li.oi ne_sc
  have hL := h.li.iface s (.slice (some ⟨g', 0, none⟩) (r.ifs.length + 1) cap') h.h3 ho hg (fun k hk => by
    simp [Value.ownBlock] at hk
    subst hk
    exact ha)
  have hR : RowAt wy g ls := h.row.other hg.size (hg.block g h.row.1 (fun e => by
    have := h.li.bi g e.symm
    omega))
  exact ⟨hB.set_ 2 _, (hL.far hB ne_sc ne_mc ne_ic 2 _).same rfl rfl, hR.other (by simp) (Below.heap_setCell _ _ _ _ (by show g ≠ w.heap.size; omega)), hU.setCell (.inr (Nat.le_refl _)) _, h.h1, h.h2, by have := hg.size; simp; omega⟩
/-- The list of methods has grown, then its new value is written. -/
theorem DocX.meth (h : DocX w n0 g ls r vi vm cs wx) (m : MethS) (hm : m.code = []) (st : Nat) (g' cap' : Nat) (hg : wx.grownBy wy vm.ownBlock) (ho : wy.ownsRow 0 86 6 (.slice (some ⟨g', 0, none⟩) (r.ms.length + 1) cap') (r.ms.length + 1) (methRows r.ms cs ++ methRow m (.slice none 0 0))) (ha : vm.ownBlock = some g' ∨ g' = wx.heap.size) :
    DocX w n0 g ls { r with ms := r.ms ++ [m], st := st } vi (.slice (some ⟨g', 0, none⟩) (r.ms.length + 1) cap') (cs ++ [.slice none 0 0]) (wy.setCell ⟨w.heap.size, 5, none⟩ (.slice (some ⟨g', 0, none⟩) (r.ms.length + 1) cap')) := by
  have hlt := h.h1
  have hlt2 := h.h2
  have hlt3 := h.h3
  have hU : Upd w wy [] := h.os.grown hg (fun k hk => .inr (by have := h.li.bm k hk; omega))
  have hB := h.blk.grown_own hg h.li.om ne_mc
  have hL := h.li.meth m hm (.slice (some ⟨g', 0, none⟩) (r.ms.length + 1) cap') h.h3 ho hg (fun k hk => by
    simp [Value.ownBlock] at hk
    subst hk
    exact ha)
  have hR : RowAt wy g ls := h.row.other hg.size (hg.block g h.row.1 (fun e => by
    have := h.li.bm g e.symm
    omega))
  exact ⟨hB.set_ 5 _, (hL.far hB ne_sc ne_mc ne_ic 5 _).same rfl rfl, hR.other (by simp) (Below.heap_setCell _ _ _ _ (by show g ≠ w.heap.size; omega)), hU.setCell (.inr (Nat.le_refl _)) _, h.h1, h.h2, by have := hg.size; simp; omega⟩
/-- A number of a method is written. -/
theorem DocX.num {gm cap : Nat} (h : DocX w n0 g ls r vi (.slice (some ⟨gm, 0, none⟩) r.ms.length cap) cs wx) (i : Nat) (hi : i < r.ms.length) (f : MethS → MethS) (st : Nat) (j : Nat) (u : Value) (hj : j < 6) (hf : ∀ m, (f m).code = m.code) (he : ∀ m c, methRow (f m) c = (methRow m c).set j u) :
    DocX w n0 g ls { r with ms := r.ms.modify i f, st := st } vi (.slice (some ⟨gm, 0, none⟩) r.ms.length cap) cs (wx.setCell ⟨gm, i * 6 + j, none⟩ u) := by
  have hlt := h.h1
  have hlt2 := h.h2
  have hb : n0 ≤ gm := h.li.bm gm rfl
  exact ⟨h.blk.far (by show w.heap.size ≠ gm; omega) u, (h.li.store i hi f j u hj hf he).same rfl rfl, h.row.other (by simp) (Below.heap_setCell _ _ _ _ (by show g ≠ gm; omega)), h.os.setCell (.inr (by show w.heap.size ≤ gm; omega)) u, h.h1, h.h2, by simpa using h.h3⟩
/-- A method's code has grown, then its new value is written. -/
theorem DocX.inst {gm cap : Nat} (h : DocX w n0 g ls r vi (.slice (some ⟨gm, 0, none⟩) r.ms.length cap) cs wx) (i : Nat) (hi : i < cs.length) (x : InstL) (v' : Value) (st : Nat) (ho : wy.ownsRow 0 90 7 v' ((codeOf r.ms i).length + 1) (instV (codeOf r.ms i) ++ x.cells.toList)) (hg : wx.grownBy wy cs[i].ownBlock) (ha : ∀ k, v'.ownBlock = some k → cs[i].ownBlock = some k ∨ k = wx.heap.size) :
    DocX w n0 g ls { r with ms := r.ms.modify i fun m => { m with code := m.code ++ [x] }, st := st } vi (.slice (some ⟨gm, 0, none⟩) r.ms.length cap) (cs.set i v') (wy.setCell ⟨gm, i * 6 + 5, none⟩ v') := by
  have hlt := h.h1
  have hlt2 := h.h2
  have hlt3 := h.h3
  have hb : n0 ≤ gm := h.li.bm gm rfl
  have hU : Upd w wy [] := h.os.grown hg (fun k hk => .inr (by have := h.li.bc i hi k hk; omega))
  have hB := h.blk.grown_own hg (h.li.oc i hi) ne_ic
  have hR : RowAt wy g ls := h.row.other hg.size (hg.block g h.row.1 (fun e => by
    have := h.li.bc i hi g e.symm
    omega))
  exact ⟨hB.far (by show w.heap.size ≠ gm; omega) _, (h.li.inst i hi x v' h.h3 ho hg ha).same rfl rfl, hR.other (by simp) (Below.heap_setCell _ _ _ _ (by show g ≠ gm; omega)), hU.setCell (.inr (by show w.heap.size ≤ gm; omega)) _, h.h1, h.h2, by have := hg.size; simp; omega⟩
end
/-- Between two rounds. -/
def docRel (l : List UInt8) (w : World) (g : Nat) (ts ti : Value) (wr : World) : Prop :=
  ∃ (i : Nat) (r : RdS), ts = .int .i64 r.st ∧ ti = .int .i64 i ∧ i < (splitL 10 l).length ∧ r.wf i ∧ Hid r.fine ∧ Hid (readL rd0 (splitL 10 l) 1 = readL r ((splitL 10 l).drop i) (i + 1)) ∧ ∃ n0 vi vm cs, Hid (DocX w n0 g (splitL 10 l) r vi vm cs wr)
/-- Behind a line: what it has made of what had been read. -/
def cutPost (w : World) (n0 g : Nat) (ls : List (List UInt8)) (o : Option RdS) (tk ts : Value) (wx : World) : Prop :=
  match o with
  | some r' => tk = .bool true ∧ ts = .int .i64 r'.st ∧ ∃ vi vm cs, Hid (DocX w n0 g ls r' vi vm cs wx)
  | none => tk = .bool false ∧ (∃ st : Nat, ts = .int .i64 st) ∧ ∃ a b c d e f, Hid (Blk wx w.heap.size 46 #[a, b, c, d, e, f]) ∧ Hid (Upd w wx [])
end Go.Proofs.YtfpdeiefkimaaaaGreatDoor
/-
  The document's Parse of a class's text: the code that takes a line. (Printed by gen_docP.py.)
-/
set_option linter.unusedSimpArgs false
set_option linter.unusedVariables false
namespace Go.Proofs.YtfpdeiefkimaaaaGreatDoor
open Go.RowKit Go.Sort

/-- A block of a function's code, by its number. -/
def blockAt (n : Nat) : Code → Option Code
  | .seq a b => match blockAt n a with
    | some c => some c
    | none => blockAt n b
  | .cond _ a b => match blockAt n a with
    | some c => some c
    | none => blockAt n b
  | .block m c => if m = n then some (.block m c) else blockAt n c
  | .loop c => blockAt n c
  | _ => none
/-- What the document's Parse does with a line. -/
noncomputable def docBlk : Code := ((Tryz.f28.body).bind (blockAt 2)).getD .skip
end Go.Proofs.YtfpdeiefkimaaaaGreatDoor
