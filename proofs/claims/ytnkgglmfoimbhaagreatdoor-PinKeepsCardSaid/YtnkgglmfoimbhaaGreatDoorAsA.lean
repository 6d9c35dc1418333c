/- errors.As: closed facts on the entries that it comes to, at the two targets; by the manner of the worked example Toyas. -/
import Derived.Test.YtnkgglmfoimbhaaGreatDoorErr
import Derived.LaidEql
import Derived.Stop.Asserts
import Derived.RowKitTokens
namespace Go.Proofs.YtnkgglmfoimbhaaGreatDoor
open Go Go.RowKit Go.Extern.Stop Go.Stop Go.Extern

theorem rlm (z : Sem Value) (f : TypeId → Addr → Nat → Nat → Sem Value) (v : Value) :
    ReflectliteValue.method z f #[v] = (do match ← ReflectliteValue.parts v with | none => z | some (t, a, fl) => f t a fl (fl % 32)) := rfl
theorem rls (v x : Value) : ReflectliteValue.set #[v, x] = (do
    let (some (dst, a, fl), some (src, b, _)) := (← ReflectliteValue.parts v, ← ReflectliteValue.parts x)
      | unsupported (.noEntry "extern/(internal/reflectlite.Value).Set.zeroValue")
    if fl / ReflectliteValue.flagAddr % 2 == 0 then unsupported (.noEntry "extern/(internal/reflectlite.Value).Set.unaddressable")
    let val ← loadVar src b
    if ← Rtype.directlyAssignable dst src then storeVar dst a val
    else if ← Rtype.implements dst src then
      if (← Rtype.kind src) == 20 then
        match val with
        | .nilIface => unsupported (.noEntry "extern/reflectlite: a nil value of one interface type handed on as a value of another")
        | _ => storeVar dst a val
      else storeVar dst a (.iface src val)
    else panicString ("reflectlite.Set: value of type " ++ (← Rtype.spelt src) ++ " is not assignable to type " ++ (← Rtype.spelt dst))
    pure (.tuple #[])) := rfl
theorem methodKind (h : Value) (w : World) : (Go.method 356 147 (.agg #[h]) "Kind").run Tryz.prog w = .ok (170, h) w := by kernel_rfl
theorem methodElem (h : Value) (w : World) : (Go.method 356 147 (.agg #[h]) "Elem").run Tryz.prog w = .ok (185, .agg #[h]) w := by kernel_rfl
theorem methodImplements (h : Value) (w : World) : (Go.method 356 147 (.agg #[h]) "Implements").run Tryz.prog w = .ok (186, .agg #[h]) w := by kernel_rfl
theorem methodAssignableTo (h : Value) (w : World) : (Go.method 356 147 (.agg #[h]) "AssignableTo").run Tryz.prog w = .ok (183, .agg #[h]) w := by kernel_rfl

/-! the target no -/
theorem valueOf_no (t : Addr) (w : World) : (ReflectliteValue.unpack (.iface 82 (.pointer (some t)))).run Tryz.prog w
    = .ok (.agg #[.pointer (some ⟨5, 82, none⟩), .pointer (some ⟨w.heap.size, 0, none⟩), .int .u64 150]) (w.alloc (.cells #[.pointer (some t)] 82)) := by kernel_rfl
theorem type_no (a : Addr) (w : World) : (ReflectliteValue.methodAny (ReflectliteValue.valueError "reflectlite.Value.Type" 0) (fun t _ _ _ => ReflectliteType.toType t) #[.agg #[.pointer (some ⟨5, 82, none⟩), .pointer (some a), .int .u64 150]]).run Tryz.prog w
    = .ok (.iface 147 (.agg #[.pointer (some ⟨5, 82, none⟩)])) w := by kernel_rfl
theorem kind_no (w : World) : ((ReflectliteType.abiMethod fun t => (fun a : Nat => Value.int IntKind.u8 (a : Int)) <$> Rtype.kind t) #[.pointer (some ⟨5, 82, none⟩)]).run Tryz.prog w = .ok (.int .u8 22) w := by kernel_rfl
theorem kindE_no (w : World) : ((ReflectliteType.abiMethod fun t => (fun a : Nat => Value.int IntKind.u8 (a : Int)) <$> Rtype.kind t) #[.pointer (some ⟨5, 75, none⟩)]).run Tryz.prog w = .ok (.int .u8 2) w := by kernel_rfl
theorem parts_no (a : Addr) (w : World) : (ReflectliteValue.parts (.agg #[.pointer (some ⟨5, 82, none⟩), .pointer (some a), .int .u64 150])).run Tryz.prog w = .ok (some (82, a, 150)) w := by kernel_rfl
theorem isNil_no (a p : Addr) (W : World) (ha : W.cell? a = some (.pointer (some p))) :
    (ReflectliteValue.method (ReflectliteValue.valueError "reflectlite.Value.IsNil" 0) ReflectliteValue.isNil #[.agg #[.pointer (some ⟨5, 82, none⟩), .pointer (some a), .int .u64 150]]).run Tryz.prog W = .ok (.bool false) W := by
  rw [rlm]
  simp only [Sem.run_bind, parts_no, Result.andThen]
  simp [ReflectliteValue.isNil, loadVar, isAgg, underlying, Tryz.underlying82, ha, Result.andThen]
theorem elem_no (w : World) : (ReflectliteType.method ReflectliteType.elem #[.agg #[.pointer (some ⟨5, 82, none⟩)]]).run Tryz.prog w = .ok (.iface 147 (.agg #[.pointer (some ⟨5, 75, none⟩)])) w := by kernel_rfl
theorem implements_no (w : World) : (ReflectliteType.relation "Implements" ReflectliteType.implements_ #[.agg #[.pointer (some ⟨5, 75, none⟩)], .iface 147 (.agg #[.pointer (some ⟨5, 24, none⟩)])]).run Tryz.prog w = .ok (.bool true) w := by kernel_rfl
theorem typeOf_no (v : Value) (w : World) : (ReflectliteType.typeOf #[.iface 75 v]).run Tryz.prog w = .ok (.iface 147 (.agg #[.pointer (some ⟨5, 75, none⟩)])) w := by kernel_rfl
theorem elemOf_no (w : World) : (Rtype.elem? 82).run Tryz.prog w = .ok (some 75) w := by kernel_rfl
theorem mk_no (p : Addr) (w : World) : (ReflectliteValue.mk 75 p ReflectliteValue.flagAddr).run Tryz.prog w = .ok (.agg #[.pointer (some ⟨5, 75, none⟩), .pointer (some p), .int .u64 386]) w := by kernel_rfl
theorem elemV_no (a p : Addr) (W : World) (ha : W.cell? a = some (.pointer (some p))) :
    (ReflectliteValue.method (ReflectliteValue.valueError "reflectlite.Value.Elem" 0) ReflectliteValue.elem #[.agg #[.pointer (some ⟨5, 82, none⟩), .pointer (some a), .int .u64 150]]).run Tryz.prog W
      = .ok (.agg #[.pointer (some ⟨5, 75, none⟩), .pointer (some p), .int .u64 386]) W := by
  rw [rlm]
  simp only [Sem.run_bind, parts_no, Result.andThen]
  simp [ReflectliteValue.elem, loadVar, isAgg, underlying, Tryz.underlying82, ha, Result.andThen, elemOf_no, mk_no]
theorem partsA_no (a : Addr) (w : World) : (ReflectliteValue.parts (.agg #[.pointer (some ⟨5, 75, none⟩), .pointer (some a), .int .u64 386])).run Tryz.prog w = .ok (some (75, a, 386)) w := by kernel_rfl
theorem partsE_no (a : Addr) (w : World) : (ReflectliteValue.parts (.agg #[.pointer (some ⟨5, 75, none⟩), .pointer (some a), .int .u64 130])).run Tryz.prog w = .ok (some (75, a, 130)) w := by kernel_rfl
theorem direct_no (w : World) : (Rtype.directlyAssignable 75 75).run Tryz.prog w = .ok true w := by kernel_rfl
theorem assign_no (w : World) : (ReflectliteType.relation "AssignableTo" ReflectliteType.assignableTo #[.agg #[.pointer (some ⟨5, 75, none⟩)], .iface 147 (.agg #[.pointer (some ⟨5, 75, none⟩)])]).run Tryz.prog w = .ok (.bool true) w := by kernel_rfl

/-! the target fa -/
theorem valueOf_fa (t : Addr) (w : World) : (ReflectliteValue.unpack (.iface 83 (.pointer (some t)))).run Tryz.prog w
    = .ok (.agg #[.pointer (some ⟨5, 83, none⟩), .pointer (some ⟨w.heap.size, 0, none⟩), .int .u64 150]) (w.alloc (.cells #[.pointer (some t)] 83)) := by kernel_rfl
theorem type_fa (a : Addr) (w : World) : (ReflectliteValue.methodAny (ReflectliteValue.valueError "reflectlite.Value.Type" 0) (fun t _ _ _ => ReflectliteType.toType t) #[.agg #[.pointer (some ⟨5, 83, none⟩), .pointer (some a), .int .u64 150]]).run Tryz.prog w
    = .ok (.iface 147 (.agg #[.pointer (some ⟨5, 83, none⟩)])) w := by kernel_rfl
theorem kind_fa (w : World) : ((ReflectliteType.abiMethod fun t => (fun a : Nat => Value.int IntKind.u8 (a : Int)) <$> Rtype.kind t) #[.pointer (some ⟨5, 83, none⟩)]).run Tryz.prog w = .ok (.int .u8 22) w := by kernel_rfl
theorem kindE_fa (w : World) : ((ReflectliteType.abiMethod fun t => (fun a : Nat => Value.int IntKind.u8 (a : Int)) <$> Rtype.kind t) #[.pointer (some ⟨5, 74, none⟩)]).run Tryz.prog w = .ok (.int .u8 22) w := by kernel_rfl
theorem parts_fa (a : Addr) (w : World) : (ReflectliteValue.parts (.agg #[.pointer (some ⟨5, 83, none⟩), .pointer (some a), .int .u64 150])).run Tryz.prog w = .ok (some (83, a, 150)) w := by kernel_rfl
theorem isNil_fa (a p : Addr) (W : World) (ha : W.cell? a = some (.pointer (some p))) :
    (ReflectliteValue.method (ReflectliteValue.valueError "reflectlite.Value.IsNil" 0) ReflectliteValue.isNil #[.agg #[.pointer (some ⟨5, 83, none⟩), .pointer (some a), .int .u64 150]]).run Tryz.prog W = .ok (.bool false) W := by
  rw [rlm]
  simp only [Sem.run_bind, parts_fa, Result.andThen]
  simp [ReflectliteValue.isNil, loadVar, isAgg, underlying, Tryz.underlying83, ha, Result.andThen]
theorem elem_fa (w : World) : (ReflectliteType.method ReflectliteType.elem #[.agg #[.pointer (some ⟨5, 83, none⟩)]]).run Tryz.prog w = .ok (.iface 147 (.agg #[.pointer (some ⟨5, 74, none⟩)])) w := by kernel_rfl
theorem implements_fa (w : World) : (ReflectliteType.relation "Implements" ReflectliteType.implements_ #[.agg #[.pointer (some ⟨5, 74, none⟩)], .iface 147 (.agg #[.pointer (some ⟨5, 24, none⟩)])]).run Tryz.prog w = .ok (.bool true) w := by kernel_rfl
theorem typeOf_fa (v : Value) (w : World) : (ReflectliteType.typeOf #[.iface 74 v]).run Tryz.prog w = .ok (.iface 147 (.agg #[.pointer (some ⟨5, 74, none⟩)])) w := by kernel_rfl
theorem elemOf_fa (w : World) : (Rtype.elem? 83).run Tryz.prog w = .ok (some 74) w := by kernel_rfl
theorem mk_fa (p : Addr) (w : World) : (ReflectliteValue.mk 74 p ReflectliteValue.flagAddr).run Tryz.prog w = .ok (.agg #[.pointer (some ⟨5, 74, none⟩), .pointer (some p), .int .u64 406]) w := by kernel_rfl
theorem elemV_fa (a p : Addr) (W : World) (ha : W.cell? a = some (.pointer (some p))) :
    (ReflectliteValue.method (ReflectliteValue.valueError "reflectlite.Value.Elem" 0) ReflectliteValue.elem #[.agg #[.pointer (some ⟨5, 83, none⟩), .pointer (some a), .int .u64 150]]).run Tryz.prog W
      = .ok (.agg #[.pointer (some ⟨5, 74, none⟩), .pointer (some p), .int .u64 406]) W := by
  rw [rlm]
  simp only [Sem.run_bind, parts_fa, Result.andThen]
  simp [ReflectliteValue.elem, loadVar, isAgg, underlying, Tryz.underlying83, ha, Result.andThen, elemOf_fa, mk_fa]
theorem partsA_fa (a : Addr) (w : World) : (ReflectliteValue.parts (.agg #[.pointer (some ⟨5, 74, none⟩), .pointer (some a), .int .u64 406])).run Tryz.prog w = .ok (some (74, a, 406)) w := by kernel_rfl
theorem partsE_fa (a : Addr) (w : World) : (ReflectliteValue.parts (.agg #[.pointer (some ⟨5, 74, none⟩), .pointer (some a), .int .u64 150])).run Tryz.prog w = .ok (some (74, a, 150)) w := by kernel_rfl
theorem direct_fa (w : World) : (Rtype.directlyAssignable 74 74).run Tryz.prog w = .ok true w := by kernel_rfl
theorem assign_fa (w : World) : (ReflectliteType.relation "AssignableTo" ReflectliteType.assignableTo #[.agg #[.pointer (some ⟨5, 74, none⟩)], .iface 147 (.agg #[.pointer (some ⟨5, 74, none⟩)])]).run Tryz.prog w = .ok (.bool true) w := by kernel_rfl

theorem assign_fa_no (w : World) : (ReflectliteType.relation "AssignableTo" ReflectliteType.assignableTo #[.agg #[.pointer (some ⟨5, 74, none⟩)], .iface 147 (.agg #[.pointer (some ⟨5, 75, none⟩)])]).run Tryz.prog w = .ok (.bool false) w := by kernel_rfl
theorem assign_no_fa (w : World) : (ReflectliteType.relation "AssignableTo" ReflectliteType.assignableTo #[.agg #[.pointer (some ⟨5, 75, none⟩)], .iface 147 (.agg #[.pointer (some ⟨5, 74, none⟩)])]).run Tryz.prog w = .ok (.bool false) w := by kernel_rfl
theorem valueOfE_no (k : IntKind) (n : Int) (w : World) : (ReflectliteValue.unpack (.iface 75 (.int k n))).run Tryz.prog w
    = .ok (.agg #[.pointer (some ⟨5, 75, none⟩), .pointer (some ⟨w.heap.size, 0, none⟩), .int .u64 130]) (w.alloc (.cells #[.int k n] 75)) := by kernel_rfl
theorem valueOfE_fa (e : Addr) (w : World) : (ReflectliteValue.unpack (.iface 74 (.pointer (some e)))).run Tryz.prog w
    = .ok (.agg #[.pointer (some ⟨5, 74, none⟩), .pointer (some ⟨w.heap.size, 0, none⟩), .int .u64 150]) (w.alloc (.cells #[.pointer (some e)] 74)) := by kernel_rfl
/-- (Value).Set of a number -/
theorem set_no (ta b : Addr) (n : Int) (old : Value) (W : World) (hb : W.cell? b = some (.int .i64 n)) (ht : W.cell? ta = some old) (hf : W.frozen? ta = false) :
    (ReflectliteValue.set #[.agg #[.pointer (some ⟨5, 75, none⟩), .pointer (some ta), .int .u64 386], .agg #[.pointer (some ⟨5, 75, none⟩), .pointer (some b), .int .u64 130]]).run Tryz.prog W
      = .ok (.tuple #[]) (W.setCell ta (.int .i64 n)) := by
  rw [rls]
  simp only [Sem.run_bind, partsA_no, partsE_no, Result.andThen]
  simp [ReflectliteValue.flagAddr, loadVar, isAgg, underlying, Tryz.underlying75, hb, Result.andThen, direct_no, storeVar, Value.cells, storeCells, Addr.add]
  rw [run_store Tryz.prog W ta _ _ (by rfl)]
  simp [ht, hf]
theorem set_fa (ta b e : Addr) (old : Value) (W : World) (hb : W.cell? b = some (.pointer (some e))) (ht : W.cell? ta = some old) (hf : W.frozen? ta = false) :
    (ReflectliteValue.set #[.agg #[.pointer (some ⟨5, 74, none⟩), .pointer (some ta), .int .u64 406], .agg #[.pointer (some ⟨5, 74, none⟩), .pointer (some b), .int .u64 150]]).run Tryz.prog W
      = .ok (.tuple #[]) (W.setCell ta (.pointer (some e))) := by
  rw [rls]
  simp only [Sem.run_bind, partsA_fa, partsE_fa, Result.andThen]
  simp [ReflectliteValue.flagAddr, loadVar, isAgg, underlying, Tryz.underlying74, hb, Result.andThen, direct_fa, storeVar, Value.cells, storeCells, Addr.add]
  rw [run_store Tryz.prog W ta _ _ (by rfl)]
  simp [ht, hf]
end Go.Proofs.YtnkgglmfoimbhaaGreatDoor
