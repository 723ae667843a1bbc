/-
  errors.As and errors.Is at a *record.fault, as contracts of the logic of values.
-/
import Derived.Test.YtjbgdmebpnfpnaaDoorProg
import Derived.WalkKit
import Derived.LaidEql
import Derived.Stop.Asserts
import Derived.RowKitTokens
import Derived.Test.YtjbgdmebpnfpnaaDoorFc

/- errors.As at a *record.fault, walked in Go's own text (after the worked ToyasAs). -/
namespace Go.Proofs.YtjbgdmebpnfpnaaDoor
open Go.RowKit Go.Extern.Stop Go.Stop Go.Extern

theorem as_nil (t : Value) (w : World) :
    Calls Tryd.prog 25 #[.nilIface, t] w fun e w' => e = .returned (.bool false) ∧ w' = w := by
  go_enter Tryd.func25, Tryd.ntmps25
  go_wp2
  go_ret
  exact ⟨rfl, rfl⟩

theorem T.valueOf27 (t : Addr) (w : World) : (ReflectliteValue.unpack (.iface 63 (.pointer (some t)))).run Tryd.prog w
    = .ok (.agg #[.pointer (some ⟨1, 63, none⟩), .pointer (some ⟨w.heap.size, 0, none⟩), .int .u64 150]) (w.alloc (.cells #[.pointer (some t)] 63)) := by kernel_rfl
theorem T.type27 (a : Addr) (w : World) : (ReflectliteValue.methodAny (ReflectliteValue.valueError "reflectlite.Value.Type" 0) (fun t _ _ _ => ReflectliteType.toType t) #[.agg #[.pointer (some ⟨1, 63, none⟩), .pointer (some a), .int .u64 150]]).run Tryd.prog w
    = .ok (.iface 95 (.agg #[.pointer (some ⟨1, 63, none⟩)])) w := by kernel_rfl
theorem T.methodKind (h : Value) (w : World) : (Go.method 240 95 (.agg #[h]) "Kind").run Tryd.prog w = .ok (61, h) w := by kernel_rfl
theorem T.kind27 (w : World) : ((ReflectliteType.abiMethod fun t => (fun a : Nat => Value.int IntKind.u8 (a : Int)) <$> Rtype.kind t) #[.pointer (some ⟨1, 63, none⟩)]).run Tryd.prog w = .ok (.int .u8 22) w := by kernel_rfl
theorem T.kind25 (w : World) : ((ReflectliteType.abiMethod fun t => (fun a : Nat => Value.int IntKind.u8 (a : Int)) <$> Rtype.kind t) #[.pointer (some ⟨1, 61, none⟩)]).run Tryd.prog w = .ok (.int .u8 22) w := by kernel_rfl

theorem rlm (z : Sem Value) (f : TypeId → Addr → Nat → Nat → Sem Value) (v : Value) :
    ReflectliteValue.method z f #[v] = (do match ← ReflectliteValue.parts v with | none => z | some (t, a, fl) => f t a fl (fl % 32)) := rfl
theorem T.parts27 (a : Addr) (w : World) : (ReflectliteValue.parts (.agg #[.pointer (some ⟨1, 63, none⟩), .pointer (some a), .int .u64 150])).run Tryd.prog w = .ok (some (63, a, 150)) w := by kernel_rfl
theorem T.isNil27 (a p : Addr) (W : World) (ha : W.cell? a = some (.pointer (some p))) :
    (ReflectliteValue.method (ReflectliteValue.valueError "reflectlite.Value.IsNil" 0) ReflectliteValue.isNil #[.agg #[.pointer (some ⟨1, 63, none⟩), .pointer (some a), .int .u64 150]]).run Tryd.prog W = .ok (.bool false) W := by
  rw [rlm]
  simp only [Sem.run_bind, T.parts27, Result.andThen]
  simp [ReflectliteValue.isNil, loadVar, isAgg, underlying, Tryd.underlying63, ha, Result.andThen]

theorem T.methodElem (h : Value) (w : World) : (Go.method 240 95 (.agg #[h]) "Elem").run Tryd.prog w = .ok (73, .agg #[h]) w := by kernel_rfl
theorem T.methodImplements (h : Value) (w : World) : (Go.method 240 95 (.agg #[h]) "Implements").run Tryd.prog w = .ok (74, .agg #[h]) w := by kernel_rfl
theorem T.methodAssignableTo (h : Value) (w : World) : (Go.method 240 95 (.agg #[h]) "AssignableTo").run Tryd.prog w = .ok (71, .agg #[h]) w := by kernel_rfl
theorem T.elem27 (w : World) : (ReflectliteType.method ReflectliteType.elem #[.agg #[.pointer (some ⟨1, 63, none⟩)]]).run Tryd.prog w = .ok (.iface 95 (.agg #[.pointer (some ⟨1, 61, none⟩)])) w := by kernel_rfl
theorem T.implements25 (w : World) : (ReflectliteType.relation "Implements" ReflectliteType.implements_ #[.agg #[.pointer (some ⟨1, 61, none⟩)], .iface 95 (.agg #[.pointer (some ⟨1, 58, none⟩)])]).run Tryd.prog w = .ok (.bool true) w := by kernel_rfl
theorem T.typeOf25 (v : Value) (w : World) : (ReflectliteType.typeOf #[.iface 61 v]).run Tryd.prog w = .ok (.iface 95 (.agg #[.pointer (some ⟨1, 61, none⟩)])) w := by kernel_rfl
theorem T.assignable25 (w : World) : (ReflectliteType.relation "AssignableTo" ReflectliteType.assignableTo #[.agg #[.pointer (some ⟨1, 61, none⟩)], .iface 95 (.agg #[.pointer (some ⟨1, 61, none⟩)])]).run Tryd.prog w = .ok (.bool true) w := by kernel_rfl
theorem T.valueOf25 (e : Addr) (w : World) : (ReflectliteValue.unpack (.iface 61 (.pointer (some e)))).run Tryd.prog w
    = .ok (.agg #[.pointer (some ⟨1, 61, none⟩), .pointer (some ⟨w.heap.size, 0, none⟩), .int .u64 150]) (w.alloc (.cells #[.pointer (some e)] 61)) := by kernel_rfl

theorem T.elemOf27 (w : World) : (Rtype.elem? 63).run Tryd.prog w = .ok (some 61) w := by kernel_rfl
theorem T.mk25 (p : Addr) (w : World) : (ReflectliteValue.mk 61 p ReflectliteValue.flagAddr).run Tryd.prog w = .ok (.agg #[.pointer (some ⟨1, 61, none⟩), .pointer (some p), .int .u64 406]) w := by kernel_rfl
theorem T.elemV27 (a p : Addr) (W : World) (ha : W.cell? a = some (.pointer (some p))) :
    (ReflectliteValue.method (ReflectliteValue.valueError "reflectlite.Value.Elem" 0) ReflectliteValue.elem #[.agg #[.pointer (some ⟨1, 63, none⟩), .pointer (some a), .int .u64 150]]).run Tryd.prog W
      = .ok (.agg #[.pointer (some ⟨1, 61, none⟩), .pointer (some p), .int .u64 406]) W := by
  rw [rlm]
  simp only [Sem.run_bind, T.parts27, Result.andThen]
  simp [ReflectliteValue.elem, loadVar, isAgg, underlying, Tryd.underlying63, ha, Result.andThen, T.elemOf27, T.mk25]
theorem rls (v x : Value) : ReflectliteValue.set #[v, x] = (do
    let (some (dst, a, fl), some (src, b, _)) := (← ReflectliteValue.parts v, ← ReflectliteValue.parts x)
      | unsupported (.noEntry "extern/(internal/reflectlite.Value).Set.zeroValue")
    if fl / ReflectliteValue.flagAddr % 2 == 0 then unsupported (.noEntry "extern/(internal/reflectlite.Value).Set.unaddressable")
    let val ← loadVar src b
    if ← Rtype.directlyAssignable dst src then storeVar dst a val
    else if ← Rtype.implements dst src then
      if (← Rtype.kind src) == 20 then
        match val with
        | .nilIface => unsupported (.noEntry "extern/reflectlite: a nil value of one interface type handed on as a value of another")
        | _ => storeVar dst a val
      else storeVar dst a (.iface src val)
    else panicString ("reflectlite.Set: value of type " ++ (← Rtype.spelt src) ++ " is not assignable to type " ++ (← Rtype.spelt dst))
    pure (.tuple #[])) := rfl
theorem T.parts25a (a : Addr) (w : World) : (ReflectliteValue.parts (.agg #[.pointer (some ⟨1, 61, none⟩), .pointer (some a), .int .u64 406])).run Tryd.prog w = .ok (some (61, a, 406)) w := by kernel_rfl
theorem T.parts25 (a : Addr) (w : World) : (ReflectliteValue.parts (.agg #[.pointer (some ⟨1, 61, none⟩), .pointer (some a), .int .u64 150])).run Tryd.prog w = .ok (some (61, a, 150)) w := by kernel_rfl
theorem T.direct25 (w : World) : (Rtype.directlyAssignable 61 61).run Tryd.prog w = .ok true w := by kernel_rfl
theorem T.size25 (w : World) : (sizeOf 61).run Tryd.prog w = .ok 1 w := by kernel_rfl
theorem T.set25 (ta b e : Addr) (old : Value) (W : World) (hb : W.cell? b = some (.pointer (some e))) (ht : W.cell? ta = some old) (hf : W.frozen? ta = false) :
    (ReflectliteValue.set #[.agg #[.pointer (some ⟨1, 61, none⟩), .pointer (some ta), .int .u64 406], .agg #[.pointer (some ⟨1, 61, none⟩), .pointer (some b), .int .u64 150]]).run Tryd.prog W
      = .ok (.tuple #[]) (W.setCell ta (.pointer (some e))) := by
  rw [rls]
  simp only [Sem.run_bind, T.parts25a, T.parts25, Result.andThen]
  simp [ReflectliteValue.flagAddr, loadVar, isAgg, underlying, Tryd.underlying61, hb, Result.andThen, T.direct25, storeVar, Value.cells, storeCells, Addr.add]
  rw [run_store Tryd.prog W ta _ _ (by rfl)]
  simp [ht, hf]

set_option maxHeartbeats 4000000 in
theorem as_hit (e t : Addr) (old : Value) (w : World) (hg : w.cell? ⟨0, 0, none⟩ = some (.iface 95 (.agg #[.pointer (some ⟨1, 58, none⟩)]))) (ht0 : w.cell? t = some old) (hf0 : w.frozen? t = false) :
    Calls Tryd.prog 25 #[.iface 61 (.pointer (some e)), .iface 63 (.pointer (some t))] w fun ev w' => ev = .returned (.bool true) ∧ w' = ((((w.alloc (.cells #[.pointer (some t)] 63)).alloc (.cells #[.pointer (some ⟨1, 63, none⟩), .pointer (some ⟨w.heap.size, 0, none⟩), .int .u64 150] 79)).alloc (.cells #[.pointer (some ⟨1, 63, none⟩), .pointer (some ⟨w.heap.size, 0, none⟩), .int .u64 150] 79)).alloc (.cells #[.pointer (some e)] 61)).setCell t (.pointer (some e)) := by
  have h6 := @run_callFunc_extern Tryd.prog 36 _ (fun args => ReflectliteValue.unpack (args.getD 0 (.tuple #[]))) Tryd.func36 (by kernel_rfl) (by kernel_rfl) (by kernel_rfl) (by kernel_rfl)
  have h7 := @run_callFunc_extern Tryd.prog 37 _ (ReflectliteValue.methodAny (ReflectliteValue.valueError "reflectlite.Value.Type" 0) (fun t _ _ _ => ReflectliteType.toType t)) Tryd.func37 (by kernel_rfl) (by kernel_rfl) (by kernel_rfl) (by kernel_rfl)
  have h8 := @run_callFunc_extern Tryd.prog 38 _ (ReflectliteValue.method (ReflectliteValue.valueError "reflectlite.Value.IsNil" 0) ReflectliteValue.isNil) Tryd.func38 (by kernel_rfl) (by kernel_rfl) (by kernel_rfl) (by kernel_rfl)
  have h27 := @run_callFunc_extern Tryd.prog 61 _ (ReflectliteType.abiMethod fun t => do pure (.int .u8 (← Rtype.kind t))) Tryd.func61 (by kernel_rfl) (by kernel_rfl) (by kernel_rfl) (by kernel_rfl)
  have h37 := @run_callFunc_extern Tryd.prog 73 _ (ReflectliteType.method ReflectliteType.elem) Tryd.func73 (by kernel_rfl) (by kernel_rfl) (by kernel_rfl) (by kernel_rfl)
  have h38 := @run_callFunc_extern Tryd.prog 74 _ (ReflectliteType.relation "Implements" ReflectliteType.implements_) Tryd.func74 (by kernel_rfl) (by kernel_rfl) (by kernel_rfl) (by kernel_rfl)
  have h10 := @run_callFunc_extern Tryd.prog 40 _ ReflectliteType.typeOf Tryd.func40 (by kernel_rfl) (by kernel_rfl) (by kernel_rfl) (by kernel_rfl)
  have h35 := @run_callFunc_extern Tryd.prog 71 _ (ReflectliteType.relation "AssignableTo" ReflectliteType.assignableTo) Tryd.func71 (by kernel_rfl) (by kernel_rfl) (by kernel_rfl) (by kernel_rfl)
  have h11 := @run_callFunc_extern Tryd.prog 44 _ (ReflectliteValue.method (ReflectliteValue.valueError "reflectlite.Value.Elem" 0) ReflectliteValue.elem) Tryd.func44 (by kernel_rfl) (by kernel_rfl) (by kernel_rfl) (by kernel_rfl)
  have h12 := @run_callFunc_extern Tryd.prog 45 _ ReflectliteValue.set Tryd.func45 (by kernel_rfl) (by kernel_rfl) (by kernel_rfl) (by kernel_rfl)
  have tO := T.typeOf25
  have mA := T.methodAssignableTo
  have a25 := T.assignable25
  have v25 := T.valueOf25
  have f6 := T.valueOf27
  have f7 := T.type27
  have mK := T.methodKind
  have mE := T.methodElem
  have mI := T.methodImplements
  have k27 := T.kind27
  have k25 := T.kind25
  have e27 := T.elem27
  have i25 := T.implements25
  have n8 := T.isNil27 ⟨w.heap.size, 0, none⟩ t ((w.alloc (.cells #[.pointer (some t)] 63)).alloc (.cells #[.pointer (some ⟨1, 63, none⟩), .pointer (some ⟨w.heap.size, 0, none⟩), .int .u64 150] 79)) (by simp)
  have hlt : 0 < w.heap.size := by
    rcases Nat.eq_zero_or_pos w.heap.size with h0 | h
    · simp [World.cell?, h0] at hg
    · exact h
  have hg2 : ((w.alloc (.cells #[.pointer (some t)] 63)).alloc (.cells #[.pointer (some ⟨1, 63, none⟩), .pointer (some ⟨w.heap.size, 0, none⟩), .int .u64 150] 79)).cell? ⟨0, 0, none⟩ = some (.iface 95 (.agg #[.pointer (some ⟨1, 58, none⟩)])) := by
    rw [World.cell?_alloc_lt _ _ ⟨0, 0, none⟩ (by simp), World.cell?_alloc_lt _ _ ⟨0, 0, none⟩ hlt]; exact hg
  have htl : t.block < w.heap.size := by
    rcases Nat.lt_or_ge t.block w.heap.size with h | h
    · exact h
    · simp [World.cell?, Array.getElem?_eq_none h] at ht0
  have el := T.elemV27 ⟨w.heap.size, 0, none⟩ t (((w.alloc (.cells #[.pointer (some t)] 63)).alloc (.cells #[.pointer (some ⟨1, 63, none⟩), .pointer (some ⟨w.heap.size, 0, none⟩), .int .u64 150] 79)).alloc (.cells #[.pointer (some ⟨1, 63, none⟩), .pointer (some ⟨w.heap.size, 0, none⟩), .int .u64 150] 79)) (by rw [World.cell?_alloc_lt _ _ ⟨w.heap.size, 0, none⟩ (by simp; omega)]; simp)
  have st := T.set25 t ⟨w.heap.size + 1 + 1 + 1, 0, none⟩ e old ((((w.alloc (.cells #[.pointer (some t)] 63)).alloc (.cells #[.pointer (some ⟨1, 63, none⟩), .pointer (some ⟨w.heap.size, 0, none⟩), .int .u64 150] 79)).alloc (.cells #[.pointer (some ⟨1, 63, none⟩), .pointer (some ⟨w.heap.size, 0, none⟩), .int .u64 150] 79)).alloc (.cells #[.pointer (some e)] 61))
    (by rw [World.cell?_alloc_at _ _ _ _ (by simp)]; rfl)
    (by rw [World.cell?_alloc_lt _ _ t (by simp; omega), World.cell?_alloc_lt _ _ t (by simp; omega), World.cell?_alloc_lt _ _ t (by simp; omega), World.cell?_alloc_lt _ _ t htl]; exact ht0)
    (by rw [World.frozen?_alloc_old _ _ t (by simp; omega), World.frozen?_alloc_old _ _ t (by simp; omega), World.frozen?_alloc_old _ _ t (by simp; omega), World.frozen?_alloc_old _ _ t (Nat.ne_of_lt htl)]; exact hf0)
  go_enter Tryd.func25, Tryd.ntmps25
  go_wp2
  refine wp_loop_rounds 1 ?_
  rw [rounds_succ]
  go_wp2
  go_ret
  exact ⟨rfl, rfl⟩
end Go.Proofs.YtjbgdmebpnfpnaaDoor

/- errors.Is of a *record.fault and an Errno: Go's own text walked: one Unwrap, then the numbers are compared. -/
namespace Go.Proofs.YtjbgdmebpnfpnaaDoor
open Go.RowKit Go.Extern.Stop Go.Stop Go.Extern

theorem T.isTypeOf (v : Value) (w : World) : (Extern.ReflectliteType.typeOf #[.iface 33 v]).run Tryd.prog w = .ok (.iface 95 (.agg #[.pointer (some ⟨1, 33, none⟩)])) w := by kernel_rfl
theorem T.isComparable (w : World) : ((Extern.ReflectliteType.method fun t => do Extern.Rtype.noPackHeld "Comparable" t; (fun a => Value.bool a.comparable) <$> typeInfo t) #[.agg #[.pointer (some ⟨1, 33, none⟩)]]).run Tryd.prog w = .ok (.bool true) w := by kernel_rfl
theorem T.isMethodComparable (v : Value) (w : World) : (Go.method 240 95 v "Comparable").run Tryd.prog w = .ok (72, v) w := by kernel_rfl
theorem T.isComp : (Tryd.prog.info? 33).map (·.comparable) = some true := by kernel_rfl
theorem T.noIsE (v : Value) (xT : TypeId) (w : World) : (Instr.typeAssert (.iface 33 v) xT 107 true).run Tryd.prog w = .ok (.tuple #[.nilIface, .bool false]) w := run_typeAssert_lacksB Tryd.underlying107 (by kernel_rfl) (by kernel_rfl) v xT w
theorem T.noUnwrapE (v : Value) (xT : TypeId) (w : World) : (Instr.typeAssert (.iface 33 v) xT 102 true).run Tryd.prog w = .ok (.tuple #[.nilIface, .bool false]) w := run_typeAssert_lacksB Tryd.underlying102 (by kernel_rfl) (by kernel_rfl) v xT w
theorem T.noUnwrapsE (v : Value) (xT : TypeId) (w : World) : (Instr.typeAssert (.iface 33 v) xT 104 true).run Tryd.prog w = .ok (.tuple #[.nilIface, .bool false]) w := run_typeAssert_lacksB Tryd.underlying104 (by kernel_rfl) (by kernel_rfl) v xT w
theorem T.noIsW (v : Value) (xT : TypeId) (w : World) : (Instr.typeAssert (.iface 61 v) xT 107 true).run Tryd.prog w = .ok (.tuple #[.nilIface, .bool false]) w := run_typeAssert_lacksB Tryd.underlying107 (by kernel_rfl) (by kernel_rfl) v xT w
theorem T.hasUnwrapW (v : Value) (xT : TypeId) (w : World) : (Instr.typeAssert (.iface 61 v) xT 102 true).run Tryd.prog w = .ok (.tuple #[.iface 61 v, .bool true]) w := run_typeAssert_hasB Tryd.underlying102 (by kernel_rfl) v xT w
theorem T.methodUnwrap (v : Value) (w : World) : (Go.method 240 61 v "Unwrap").run Tryd.prog w = .ok (66, v) w := by kernel_rfl

/-- Two errors that are numbers are alike as the numbers are. -/
theorem T.eqErrno (a b : Int) (w : World) : (binOp .eql 58 (.iface 33 (.int .i64 a)) (.iface 33 (.int .i64 b))).run Tryd.prog w = .ok (.bool (a == b)) w := by
  obtain ⟨i, hi, hc⟩ := Option.map_eq_some_iff.1 T.isComp
  have h : ∀ d : Nat, (Op.equalIn (d + 2) 58 (.iface 33 (.int .i64 a)) (.iface 33 (.int .i64 b))).run Tryd.prog w = .ok (a == b) w := fun d => by
    simp [Op.equalIn, run_underlying Tryd.underlying58, run_underlying Tryd.underlying33, typeInfo, hi, hc]
  simp only [binOp]
  simp [Op.equal, Op.maxDepth, h 9998]

theorem is_eq (pb po : Nat) (a : Int) (w : World) (h1 : w.cell? ⟨pb, po + 1, none⟩ = some (.int .i64 a)) (ha : a = 3) :
    Calls Tryd.prog 26 #[.iface 61 (.pointer (some ⟨pb, po, none⟩)), .iface 33 (.int .i64 3)] w fun e w' => e = .returned (.bool true) ∧ w' = w := by
  subst ha
  have h8 := @run_callFunc_extern Tryd.prog 40 _ Extern.ReflectliteType.typeOf Tryd.func40 (by kernel_rfl) (by kernel_rfl) (by kernel_rfl) (by kernel_rfl)
  have h32 := @run_callFunc_extern Tryd.prog 72 _ (Extern.ReflectliteType.method fun t => do Extern.Rtype.noPackHeld "Comparable" t; pure (.bool (← typeInfo t).comparable)) Tryd.func72 (by kernel_rfl) (by kernel_rfl) (by kernel_rfl) (by kernel_rfl)
  have tT := T.isTypeOf
  have cT := T.isComparable
  have mR := T.isMethodComparable
  have nW := T.noIsW
  have uW := T.hasUnwrapW
  have mU := T.methodUnwrap
  have heq := T.eqErrno 3 3 w
  have hty := run_eql_iface_types (P := Tryd.prog) 61 33 (.pointer (some ⟨pb, po, none⟩)) (.int .i64 3) Tryd.underlying58 (by decide) w
  go_enter Tryd.func26, Tryd.ntmps26
  go_wp2
  refine wp_loop_rounds 2 ?_
  rw [rounds_succ]
  go_wp2
  rw [rounds_succ]
  go_wp2
  go_ret
  exact ⟨rfl, rfl⟩

theorem is_ne (pb po : Nat) (a : Int) (w : World) (h1 : w.cell? ⟨pb, po + 1, none⟩ = some (.int .i64 a)) (ha : (a == 3) = false) :
    Calls Tryd.prog 26 #[.iface 61 (.pointer (some ⟨pb, po, none⟩)), .iface 33 (.int .i64 3)] w fun e w' => e = .returned (.bool false) ∧ w' = w := by
  have h8 := @run_callFunc_extern Tryd.prog 40 _ Extern.ReflectliteType.typeOf Tryd.func40 (by kernel_rfl) (by kernel_rfl) (by kernel_rfl) (by kernel_rfl)
  have h32 := @run_callFunc_extern Tryd.prog 72 _ (Extern.ReflectliteType.method fun t => do Extern.Rtype.noPackHeld "Comparable" t; pure (.bool (← typeInfo t).comparable)) Tryd.func72 (by kernel_rfl) (by kernel_rfl) (by kernel_rfl) (by kernel_rfl)
  have tT := T.isTypeOf
  have cT := T.isComparable
  have mR := T.isMethodComparable
  have nE := T.noIsE
  have uE := T.noUnwrapE
  have vE := T.noUnwrapsE
  have nW := T.noIsW
  have uW := T.hasUnwrapW
  have mU := T.methodUnwrap
  have heq := T.eqErrno a 3 w
  rw [ha] at heq
  have hty := run_eql_iface_types (P := Tryd.prog) 61 33 (.pointer (some ⟨pb, po, none⟩)) (.int .i64 3) Tryd.underlying58 (by decide) w
  go_enter Tryd.func26, Tryd.ntmps26
  go_wp2
  refine wp_loop_rounds 2 ?_
  rw [rounds_succ]
  go_wp2
  rw [rounds_succ]
  go_wp2
  go_ret
  exact ⟨rfl, rfl⟩

end Go.Proofs.YtjbgdmebpnfpnaaDoor

/- errors.As and errors.Is at a *record.fault, as contracts of the logic of values. -/
namespace Go.Proofs.YtjbgdmebpnfpnaaDoor.V
open Go.RowKit

/-- What a call leaves, where it returns a plain value. -/
theorem Rel.plain {w : World} {fr pi : Nat → Nat} {own : Res → List Nat} {s : FS} {tm : Array Value} (hr : Rel w fr pi own s tm) {ret : AV} {v : Value} {h : List HObj} (hb : ∀ i, h[i]? = s.bx i) (hv : Rep w fr pi ret v []) (hf : ret.flat = true) :
    ∃ own', Rel w fr pi own' (FS.of [ret] h) #[v] ∧ ∀ r b, b ∈ own' r → b ∈ own r := by
  let own2 : Res → List Nat := fun r => match r with
    | .slot _ => []
    | .box i => own (.box i)
  have hsub : ∀ r b, b ∈ own2 r → b ∈ own r := fun r b hb => by
    cases r with
    | slot i => simp [own2] at hb
    | box i => exact hb
  have hhas : ∀ i, s.has i → (FS.of [ret] h).has i := fun i ⟨o, ho⟩ => ⟨o, by show h[i]? = some o; rw [hb]; exact ho⟩
  refine ⟨own2, ⟨fun i => ?_, fun i => ?_, fun i o ho => ?_, fun i o ho => ?_, fun i hi => hr.nobox i (by rw [← hb]; exact hi), fun r => ?_, fun r r' b x x' => hr.dj r r' b (hsub r b x) (hsub r' b x'), fun r b x => hr.live r b (hsub r b x)⟩, hsub⟩
  · cases i with
    | zero => exact hv
    | succ n => exact .undef _
  · cases i with
    | zero =>
      show NP _ ret
      cases ret <;> first | (simp [AV.flat] at hf; done) | constructor
    | succ n => exact .undef
  · exact hr.box i o (by rw [← hb]; exact ho)
  · exact (hr.boxnp i o (by rw [← hb]; exact ho)).mono hhas
  · cases r with
    | slot i => exact .nil
    | box i => exact hr.nd _

/-- The variable errors.errorType holds this. -/
def gv : Value := .iface 95 (.agg #[.pointer (some ⟨1, 58, none⟩)])
def G0 : HObj := .glob 0 [gv]

theorem two_vals {vals : List Value} (h : vals.length = 2) : vals = [vals.toArray.getD 0 Go.undef, vals.toArray.getD 1 Go.undef] := by
  match vals, h with
  | [a, b], _ => rfl

theorem asNil (ob : HObj) (x : AV) : VCall Tryd.prog 25 [.niliface, x] [ob] (.bool false) [ob] := by
  refine ⟨known_of (by kernel_rfl), Nat.le_refl _, fun w fr pi own vals hl hr => ?_⟩
  have h0 : vals.toArray.getD 0 Go.undef = .nilIface := (hr.slot 0).niliface_inv
  rw [two_vals hl, h0]
  refine Runs.of (by kernel_rfl) ((as_nil _ w).mono fun e w' hp => ?_)
  obtain ⟨rfl, rfl⟩ := hp
  obtain ⟨own', k1, k2⟩ := hr.plain (ret := .bool false) (v := .bool false) (h := [ob]) (fun i => rfl) (.bool _) rfl
  exact ⟨_, fr, pi, own', rfl, k1, ⟨Step.refl _ _ _, fun r b hb => .inl ⟨r, k2 r b hb⟩, fun _ _ => rfl⟩⟩

theorem asHit (cs : List AV) : VCall Tryd.prog 25 [.iface 61 (.rptr cs), .iface 63 (.ptr (some (1, 0)))] [G0, .cells [.ptr none]] (.bool true) [G0, .cells [.rptr cs]] := by
  refine ⟨known_of (by kernel_rfl), Nat.le_refl _, fun w fr pi own vals hl hr => ?_⟩
  have hnp : NP (FS.of [.iface 61 (.rptr cs), .iface 63 (.ptr (some (1, 0)))] [G0, .cells [.ptr none]]).has (.rptr cs) := by
    have := hr.slotnp 0
    change NP _ (.iface 61 (.rptr cs)) at this
    cases this; assumption
  obtain ⟨u0, e0, r0⟩ := (hr.slot 0).iface_inv
  obtain ⟨b, o, vs, rfl, c1, c2, _⟩ := r0.rptr_inv
  obtain ⟨u1, e1, r1⟩ := (hr.slot 1).iface_inv
  obtain ⟨rfl, _⟩ := r1.ptr_inv
  obtain ⟨O, hg0, _⟩ := hr.box 0 G0 rfl
  obtain ⟨_, hg⟩ := hg0
  have hg1 : w.cell? ⟨0, 0, none⟩ = some gv := (hg 0 gv rfl).1
  obtain ⟨O1, ⟨vs1, el, hc1, hc2, hc3⟩, hc4⟩ := hr.box 1 (.cells [.ptr none]) rfl
  obtain ⟨v1, vr, O2, O3, rfl, _, hp1, hp2⟩ := hc2.cons_inv
  have := hp1.ptrnil_inv
  subst this
  cases hp2
  have ht0 : w.cell? ⟨pi 1, 0, none⟩ = some (.pointer none) := by simp [World.cell?, hc1]
  have hf0 : w.frozen? ⟨pi 1, 0, none⟩ = false := by simp [World.frozen?, hc1]
  rw [two_vals hl, e0, e1]
  refine Runs.of (by kernel_rfl) ((as_hit ⟨b, o, none⟩ ⟨pi 1, 0, none⟩ (.pointer none) w hg1 ht0 hf0).mono fun e w' hp => ?_)
  obtain ⟨rfl, rfl⟩ := hp
  generalize hA : (((w.alloc (.cells #[.pointer (some ⟨pi 1, 0, none⟩)] 63)).alloc (.cells #[.pointer (some ⟨1, 63, none⟩), .pointer (some ⟨w.heap.size, 0, none⟩), .int .u64 150] 79)).alloc (.cells #[.pointer (some ⟨1, 63, none⟩), .pointer (some ⟨w.heap.size, 0, none⟩), .int .u64 150] 79)).alloc (.cells #[.pointer (some ⟨b, o, none⟩)] 61) = A
  obtain ⟨frA, st⟩ : ∃ frA, Step w A fr frA (fun _ => False) := by
    subst hA
    exact ⟨_, ((((Step.alloc w fr _ 0).trans (Step.alloc _ _ _ 0) (fun _ _ h => h)).trans (Step.alloc _ _ _ 0) (fun _ _ h => h)).trans (Step.alloc _ _ _ 0) (fun _ _ h => h))⟩
  have hr4 := hr.step st (fun _ _ _ h => h)
  have r4 : Reps A frA pi [.rptr cs] [.pointer (some ⟨b, o, none⟩)] [] := by
    have h4 := hr4.slot 0
    rw [e0] at h4
    obtain ⟨u, eu, ru⟩ := h4.iface_inv
    cases eu
    exact Reps.cons _ _ _ _ _ _ ru .nil
  obtain ⟨own', k1, k2, k3, k4, _, _⟩ := hr4.setBox (id := 1) (off := 0) (cs := [.ptr none]) rfl r4 (fun a ha => by rw [List.mem_singleton.1 ha]; exact hnp) .nil (by simp) (by simp) (by simp)
  have hw : A.setCells (pi 1) 0 [.pointer (some ⟨b, o, none⟩)] = A.setCell ⟨pi 1, 0, none⟩ (.pointer (some ⟨b, o, none⟩)) := rfl
  rw [hw] at k1 k2
  obtain ⟨own2, q1, q2⟩ := k1.plain (ret := .bool true) (v := .bool true) (h := [G0, .cells [.rptr cs]]) (fun i => by
    match i with
    | 0 => rfl
    | 1 => rfl
    | n + 2 => rfl) (.bool _) rfl
  refine ⟨_, frA, pi, own2, rfl, q1, ⟨?_, fun r x hx => ?_, fun _ _ => rfl⟩⟩
  · have s1 : Step w A fr frA (fun b => ∃ r, b ∈ own r) := st.mono (fun _ _ h => h.elim)
    have s2 : Step A (A.setCell ⟨pi 1, 0, none⟩ (.pointer (some ⟨b, o, none⟩))) frA frA (fun b => ∃ r, b ∈ own r) := k2.mono (fun x _ hx => by subst hx; exact ⟨_, k3⟩)
    exact s1.trans s2 (fun _ _ h => h)
  · rcases k4 r x (q2 r x hx) with h | h
    · exact .inl h
    · simp at h

theorem isN (a e : Int) (ob : List HObj) : VCall Tryd.prog 26 [.iface 61 (.rptr [.int .i64 a, .int .i64 e]), .iface 33 (.int .i64 3)] ob (.bool (e == 3)) ob := by
  refine ⟨known_of (by kernel_rfl), Nat.le_refl _, fun w fr pi own vals hl hr => ?_⟩
  obtain ⟨u0, e0, r0⟩ := (hr.slot 0).iface_inv
  obtain ⟨b, o, vs, rfl, c1, c2, _⟩ := r0.rptr_inv
  obtain ⟨u1, e1, r1⟩ := (hr.slot 1).iface_inv
  have := r1.int_inv
  subst this
  obtain ⟨v1, vr, rfl, _, c1⟩ := c1.cons_inv0
  obtain ⟨v2, vr, rfl, hv2, c1⟩ := c1.cons_inv0
  have := hv2.int_inv
  subst this
  have hc : w.cell? ⟨b, o + 1, none⟩ = some (.int .i64 e) := (c2 1 _ rfl).1
  rw [two_vals hl, e0, e1]
  have fin : ∀ {z : Bool}, Calls Tryd.prog 26 #[.iface 61 (.pointer (some ⟨b, o, none⟩)), .iface 33 (.int .i64 3)] w (fun e w' => e = .returned (.bool z) ∧ w' = w) → (e == 3) = z →
      Runs Tryd.prog 26 [Value.iface 61 (.pointer (some ⟨b, o, none⟩)), .iface 33 (.int .i64 3)].toArray w fun e' w' => ∃ v fr' pi' own', e' = .returned v ∧ Rel w' fr' pi' own' (FS.of [.bool (e == 3)] ob) #[v] ∧ Ext w w' fr fr' pi pi' own own' (fun i => i < ob.length) := by
    intro z hz ez
    refine Runs.of (by kernel_rfl) (hz.mono fun e' w' hp => ?_)
    obtain ⟨rfl, rfl⟩ := hp
    obtain ⟨own', k1, k2⟩ := hr.plain (ret := .bool (e == 3)) (v := .bool z) (h := ob) (fun i => rfl) (by rw [ez]; exact .bool _) rfl
    exact ⟨_, fr, pi, own', rfl, k1, ⟨Step.refl _ _ _, fun r b hb => .inl ⟨r, k2 r b hb⟩, fun _ _ => rfl⟩⟩
  by_cases he : e = 3
  · exact fin (is_eq b o e w hc he) (by rw [he]; rfl)
  · exact fin (is_ne b o e w hc (by simpa using he)) (by simpa using he)

end Go.Proofs.YtjbgdmebpnfpnaaDoor.V
