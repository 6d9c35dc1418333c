/- errors.As: closed facts on the entries that it comes to, at the two targets; by the manner of the worked example Toyas. errors.As, by its contracts at the two targets: an Errno, a *Fault. errors.As, by its contracts: an Errno where a *Fault is looked for; a *Fault where an Errno is. The contracts of api.Code, api.At. -/
import Derived.Test.YthodpjcdmdbnoaaGreatDoorNErr
import Derived.LaidEql
import Derived.Stop.Asserts
import Derived.RowKitTokens
/- errors.As: closed facts on the entries that it comes to, at the two targets; by the manner of the worked example Toyas. -/
namespace Go.Proofs.YthodpjcdmdbnoaaGreatDoor
open Go Go.RowKit Go.Extern.Stop Go.Stop Go.Extern

theorem rlm (z : Sem Value) (f : TypeId → Addr → Nat → Nat → Sem Value) (v : Value) :
    ReflectliteValue.method z f #[v] = (do match ← ReflectliteValue.parts v with | none => z | some (t, a, fl) => f t a fl (fl % 32)) := rfl
theorem rls (v x : Value) : ReflectliteValue.set #[v, x] = (do
    let (some (dst, a, fl), some (src, b, _)) := (← ReflectliteValue.parts v, ← ReflectliteValue.parts x)
     | unsupported (.noEntry "extern/(internal/reflectlite.Value).Set.zeroValue")
    if fl / ReflectliteValue.flagAddr % 2 == 0 then unsupported (.noEntry "extern/(internal/reflectlite.Value).Set.unaddressable")
    let val ← loadVar src b
    if ← Rtype.directlyAssignable dst src then storeVar dst a val
    else if ← Rtype.implements dst src then
     if (← Rtype.kind src) == 20 then
      match val with
      | .nilIface => unsupported (.noEntry "extern/reflectlite: a nil value of one interface type handed on as a value of another")
      | _ => storeVar dst a val
     else storeVar dst a (.iface src val)
    else panicString ("reflectlite.Set: value of type " ++ (← Rtype.spelt src) ++ " is not assignable to type " ++ (← Rtype.spelt dst))
    pure (.tuple #[])) := rfl
theorem methodKind (h : Value) (w : World) : (Go.method 346 149 (.agg #[h]) "Kind").run Tryz.prog w = .ok (156, h) w := by kernel_rfl
theorem methodElem (h : Value) (w : World) : (Go.method 346 149 (.agg #[h]) "Elem").run Tryz.prog w = .ok (171, .agg #[h]) w := by kernel_rfl
theorem methodImplements (h : Value) (w : World) : (Go.method 346 149 (.agg #[h]) "Implements").run Tryz.prog w = .ok (172, .agg #[h]) w := by kernel_rfl
theorem methodAssignableTo (h : Value) (w : World) : (Go.method 346 149 (.agg #[h]) "AssignableTo").run Tryz.prog w = .ok (169, .agg #[h]) w := by kernel_rfl

/-! the target no -/
theorem valueOf_no (t : Addr) (w : World) : (ReflectliteValue.unpack (.iface 76 (.pointer (some t)))).run Tryz.prog w
    = .ok (.agg #[.pointer (some ⟨5, 76, none⟩), .pointer (some ⟨w.heap.size, 0, none⟩), .int .u64 150]) (w.alloc (.cells #[.pointer (some t)] 76)) := by kernel_rfl
theorem type_no (a : Addr) (w : World) : (ReflectliteValue.methodAny (ReflectliteValue.valueError "reflectlite.Value.Type" 0) (fun t _ _ _ => ReflectliteType.toType t) #[.agg #[.pointer (some ⟨5, 76, none⟩), .pointer (some a), .int .u64 150]]).run Tryz.prog w
    = .ok (.iface 149 (.agg #[.pointer (some ⟨5, 76, none⟩)])) w := by kernel_rfl
theorem kind_no (w : World) : ((ReflectliteType.abiMethod fun t => (fun a : Nat => Value.int IntKind.u8 (a : Int)) <$> Rtype.kind t) #[.pointer (some ⟨5, 76, none⟩)]).run Tryz.prog w = .ok (.int .u8 22) w := by kernel_rfl
theorem kindE_no (w : World) : ((ReflectliteType.abiMethod fun t => (fun a : Nat => Value.int IntKind.u8 (a : Int)) <$> Rtype.kind t) #[.pointer (some ⟨5, 57, none⟩)]).run Tryz.prog w = .ok (.int .u8 2) w := by kernel_rfl
theorem parts_no (a : Addr) (w : World) : (ReflectliteValue.parts (.agg #[.pointer (some ⟨5, 76, none⟩), .pointer (some a), .int .u64 150])).run Tryz.prog w = .ok (some (76, a, 150)) w := by kernel_rfl
theorem isNil_no (a p : Addr) (W : World) (ha : W.cell? a = some (.pointer (some p))) :
    (ReflectliteValue.method (ReflectliteValue.valueError "reflectlite.Value.IsNil" 0) ReflectliteValue.isNil #[.agg #[.pointer (some ⟨5, 76, none⟩), .pointer (some a), .int .u64 150]]).run Tryz.prog W = .ok (.bool false) W := by
 rw [rlm]
 simp only [Sem.run_bind, parts_no, Result.andThen]
 simp [ReflectliteValue.isNil, loadVar, isAgg, underlying, Tryz.underlying76, ha, Result.andThen]
theorem elem_no (w : World) : (ReflectliteType.method ReflectliteType.elem #[.agg #[.pointer (some ⟨5, 76, none⟩)]]).run Tryz.prog w = .ok (.iface 149 (.agg #[.pointer (some ⟨5, 57, none⟩)])) w := by kernel_rfl
theorem implements_no (w : World) : (ReflectliteType.relation "Implements" ReflectliteType.implements_ #[.agg #[.pointer (some ⟨5, 57, none⟩)], .iface 149 (.agg #[.pointer (some ⟨5, 28, none⟩)])]).run Tryz.prog w = .ok (.bool true) w := by kernel_rfl
theorem typeOf_no (v : Value) (w : World) : (ReflectliteType.typeOf #[.iface 57 v]).run Tryz.prog w = .ok (.iface 149 (.agg #[.pointer (some ⟨5, 57, none⟩)])) w := by kernel_rfl
theorem elemOf_no (w : World) : (Rtype.elem? 76).run Tryz.prog w = .ok (some 57) w := by kernel_rfl
theorem mk_no (p : Addr) (w : World) : (ReflectliteValue.mk 57 p ReflectliteValue.flagAddr).run Tryz.prog w = .ok (.agg #[.pointer (some ⟨5, 57, none⟩), .pointer (some p), .int .u64 386]) w := by kernel_rfl
theorem elemV_no (a p : Addr) (W : World) (ha : W.cell? a = some (.pointer (some p))) :
    (ReflectliteValue.method (ReflectliteValue.valueError "reflectlite.Value.Elem" 0) ReflectliteValue.elem #[.agg #[.pointer (some ⟨5, 76, none⟩), .pointer (some a), .int .u64 150]]).run Tryz.prog W
     = .ok (.agg #[.pointer (some ⟨5, 57, none⟩), .pointer (some p), .int .u64 386]) W := by
 rw [rlm]
 simp only [Sem.run_bind, parts_no, Result.andThen]
 simp [ReflectliteValue.elem, loadVar, isAgg, underlying, Tryz.underlying76, ha, Result.andThen, elemOf_no, mk_no]
theorem partsA_no (a : Addr) (w : World) : (ReflectliteValue.parts (.agg #[.pointer (some ⟨5, 57, none⟩), .pointer (some a), .int .u64 386])).run Tryz.prog w = .ok (some (57, a, 386)) w := by kernel_rfl
theorem partsE_no (a : Addr) (w : World) : (ReflectliteValue.parts (.agg #[.pointer (some ⟨5, 57, none⟩), .pointer (some a), .int .u64 130])).run Tryz.prog w = .ok (some (57, a, 130)) w := by kernel_rfl
theorem direct_no (w : World) : (Rtype.directlyAssignable 57 57).run Tryz.prog w = .ok true w := by kernel_rfl
theorem assign_no (w : World) : (ReflectliteType.relation "AssignableTo" ReflectliteType.assignableTo #[.agg #[.pointer (some ⟨5, 57, none⟩)], .iface 149 (.agg #[.pointer (some ⟨5, 57, none⟩)])]).run Tryz.prog w = .ok (.bool true) w := by kernel_rfl

/-! the target fa -/
theorem valueOf_fa (t : Addr) (w : World) : (ReflectliteValue.unpack (.iface 78 (.pointer (some t)))).run Tryz.prog w
    = .ok (.agg #[.pointer (some ⟨5, 78, none⟩), .pointer (some ⟨w.heap.size, 0, none⟩), .int .u64 150]) (w.alloc (.cells #[.pointer (some t)] 78)) := by kernel_rfl
theorem type_fa (a : Addr) (w : World) : (ReflectliteValue.methodAny (ReflectliteValue.valueError "reflectlite.Value.Type" 0) (fun t _ _ _ => ReflectliteType.toType t) #[.agg #[.pointer (some ⟨5, 78, none⟩), .pointer (some a), .int .u64 150]]).run Tryz.prog w
    = .ok (.iface 149 (.agg #[.pointer (some ⟨5, 78, none⟩)])) w := by kernel_rfl
theorem kind_fa (w : World) : ((ReflectliteType.abiMethod fun t => (fun a : Nat => Value.int IntKind.u8 (a : Int)) <$> Rtype.kind t) #[.pointer (some ⟨5, 78, none⟩)]).run Tryz.prog w = .ok (.int .u8 22) w := by kernel_rfl
theorem kindE_fa (w : World) : ((ReflectliteType.abiMethod fun t => (fun a : Nat => Value.int IntKind.u8 (a : Int)) <$> Rtype.kind t) #[.pointer (some ⟨5, 77, none⟩)]).run Tryz.prog w = .ok (.int .u8 22) w := by kernel_rfl
theorem parts_fa (a : Addr) (w : World) : (ReflectliteValue.parts (.agg #[.pointer (some ⟨5, 78, none⟩), .pointer (some a), .int .u64 150])).run Tryz.prog w = .ok (some (78, a, 150)) w := by kernel_rfl
theorem isNil_fa (a p : Addr) (W : World) (ha : W.cell? a = some (.pointer (some p))) :
    (ReflectliteValue.method (ReflectliteValue.valueError "reflectlite.Value.IsNil" 0) ReflectliteValue.isNil #[.agg #[.pointer (some ⟨5, 78, none⟩), .pointer (some a), .int .u64 150]]).run Tryz.prog W = .ok (.bool false) W := by
 rw [rlm]
 simp only [Sem.run_bind, parts_fa, Result.andThen]
 simp [ReflectliteValue.isNil, loadVar, isAgg, underlying, Tryz.underlying78, ha, Result.andThen]
theorem elem_fa (w : World) : (ReflectliteType.method ReflectliteType.elem #[.agg #[.pointer (some ⟨5, 78, none⟩)]]).run Tryz.prog w = .ok (.iface 149 (.agg #[.pointer (some ⟨5, 77, none⟩)])) w := by kernel_rfl
theorem implements_fa (w : World) : (ReflectliteType.relation "Implements" ReflectliteType.implements_ #[.agg #[.pointer (some ⟨5, 77, none⟩)], .iface 149 (.agg #[.pointer (some ⟨5, 28, none⟩)])]).run Tryz.prog w = .ok (.bool true) w := by kernel_rfl
theorem typeOf_fa (v : Value) (w : World) : (ReflectliteType.typeOf #[.iface 77 v]).run Tryz.prog w = .ok (.iface 149 (.agg #[.pointer (some ⟨5, 77, none⟩)])) w := by kernel_rfl
theorem elemOf_fa (w : World) : (Rtype.elem? 78).run Tryz.prog w = .ok (some 77) w := by kernel_rfl
theorem mk_fa (p : Addr) (w : World) : (ReflectliteValue.mk 77 p ReflectliteValue.flagAddr).run Tryz.prog w = .ok (.agg #[.pointer (some ⟨5, 77, none⟩), .pointer (some p), .int .u64 406]) w := by kernel_rfl
theorem elemV_fa (a p : Addr) (W : World) (ha : W.cell? a = some (.pointer (some p))) :
    (ReflectliteValue.method (ReflectliteValue.valueError "reflectlite.Value.Elem" 0) ReflectliteValue.elem #[.agg #[.pointer (some ⟨5, 78, none⟩), .pointer (some a), .int .u64 150]]).run Tryz.prog W
     = .ok (.agg #[.pointer (some ⟨5, 77, none⟩), .pointer (some p), .int .u64 406]) W := by
 rw [rlm]
 simp only [Sem.run_bind, parts_fa, Result.andThen]
 simp [ReflectliteValue.elem, loadVar, isAgg, underlying, Tryz.underlying78, ha, Result.andThen, elemOf_fa, mk_fa]
theorem partsA_fa (a : Addr) (w : World) : (ReflectliteValue.parts (.agg #[.pointer (some ⟨5, 77, none⟩), .pointer (some a), .int .u64 406])).run Tryz.prog w = .ok (some (77, a, 406)) w := by kernel_rfl
theorem partsE_fa (a : Addr) (w : World) : (ReflectliteValue.parts (.agg #[.pointer (some ⟨5, 77, none⟩), .pointer (some a), .int .u64 150])).run Tryz.prog w = .ok (some (77, a, 150)) w := by kernel_rfl
theorem direct_fa (w : World) : (Rtype.directlyAssignable 77 77).run Tryz.prog w = .ok true w := by kernel_rfl
theorem assign_fa (w : World) : (ReflectliteType.relation "AssignableTo" ReflectliteType.assignableTo #[.agg #[.pointer (some ⟨5, 77, none⟩)], .iface 149 (.agg #[.pointer (some ⟨5, 77, none⟩)])]).run Tryz.prog w = .ok (.bool true) w := by kernel_rfl

theorem assign_fa_no (w : World) : (ReflectliteType.relation "AssignableTo" ReflectliteType.assignableTo #[.agg #[.pointer (some ⟨5, 77, none⟩)], .iface 149 (.agg #[.pointer (some ⟨5, 57, none⟩)])]).run Tryz.prog w = .ok (.bool false) w := by kernel_rfl
theorem assign_no_fa (w : World) : (ReflectliteType.relation "AssignableTo" ReflectliteType.assignableTo #[.agg #[.pointer (some ⟨5, 57, none⟩)], .iface 149 (.agg #[.pointer (some ⟨5, 77, none⟩)])]).run Tryz.prog w = .ok (.bool false) w := by kernel_rfl
theorem valueOfE_no (k : IntKind) (n : Int) (w : World) : (ReflectliteValue.unpack (.iface 57 (.int k n))).run Tryz.prog w
    = .ok (.agg #[.pointer (some ⟨5, 57, none⟩), .pointer (some ⟨w.heap.size, 0, none⟩), .int .u64 130]) (w.alloc (.cells #[.int k n] 57)) := by kernel_rfl
theorem valueOfE_fa (e : Addr) (w : World) : (ReflectliteValue.unpack (.iface 77 (.pointer (some e)))).run Tryz.prog w
    = .ok (.agg #[.pointer (some ⟨5, 77, none⟩), .pointer (some ⟨w.heap.size, 0, none⟩), .int .u64 150]) (w.alloc (.cells #[.pointer (some e)] 77)) := by kernel_rfl
/-- (Value).Set of a number -/
theorem set_no (ta b : Addr) (n : Int) (old : Value) (W : World) (hb : W.cell? b = some (.int .i64 n)) (ht : W.cell? ta = some old) (hf : W.frozen? ta = false) :
    (ReflectliteValue.set #[.agg #[.pointer (some ⟨5, 57, none⟩), .pointer (some ta), .int .u64 386], .agg #[.pointer (some ⟨5, 57, none⟩), .pointer (some b), .int .u64 130]]).run Tryz.prog W
     = .ok (.tuple #[]) (W.setCell ta (.int .i64 n)) := by
 rw [rls]
 simp only [Sem.run_bind, partsA_no, partsE_no, Result.andThen]
 simp [ReflectliteValue.flagAddr, loadVar, isAgg, underlying, Tryz.underlying57, hb, Result.andThen, direct_no, storeVar, Value.cells, storeCells, Addr.add]
 rw [run_store Tryz.prog W ta _ _ (by rfl)]
 simp [ht, hf]
theorem set_fa (ta b e : Addr) (old : Value) (W : World) (hb : W.cell? b = some (.pointer (some e))) (ht : W.cell? ta = some old) (hf : W.frozen? ta = false) :
    (ReflectliteValue.set #[.agg #[.pointer (some ⟨5, 77, none⟩), .pointer (some ta), .int .u64 406], .agg #[.pointer (some ⟨5, 77, none⟩), .pointer (some b), .int .u64 150]]).run Tryz.prog W
     = .ok (.tuple #[]) (W.setCell ta (.pointer (some e))) := by
 rw [rls]
 simp only [Sem.run_bind, partsA_fa, partsE_fa, Result.andThen]
 simp [ReflectliteValue.flagAddr, loadVar, isAgg, underlying, Tryz.underlying77, hb, Result.andThen, direct_fa, storeVar, Value.cells, storeCells, Addr.add]
 rw [run_store Tryz.prog W ta _ _ (by rfl)]
 simp [ht, hf]
end Go.Proofs.YthodpjcdmdbnoaaGreatDoor

/- errors.As, by its contracts at the two targets: an Errno, a *Fault. -/
namespace Go.Proofs.YthodpjcdmdbnoaaGreatDoor
open Go Go.RowKit Go.Extern.Stop Go.Stop Go.Extern


set_option maxHeartbeats 8000000 in
set_option maxRecDepth 100000 in
theorem as_no_no (n : Int) (t : Addr) (old : Value) (w : World) (hg : w.cell? ⟨0, 0, none⟩ = some (.iface 149 (.agg #[.pointer (some ⟨5, 28, none⟩)]))) (ht0 : w.cell? t = some old) (hf0 : w.frozen? t = false) :
    Calls Tryz.prog 34 #[.iface 57 (.int .i64 n), .iface 76 (.pointer (some t))] w fun ev w' => ev = .returned (.bool true) ∧ ∃ w1, Below w.heap.size w w1 ∧ w' = w1.setCell t (.int .i64 n) := by
 have x52 := @run_callFunc_extern Tryz.prog 61 _ (fun args => ReflectliteValue.unpack (args.getD 0 (.tuple #[]))) Tryz.func61 (by kernel_rfl) (by kernel_rfl) (by kernel_rfl) (by kernel_rfl)
 have x53 := @run_callFunc_extern Tryz.prog 62 _ (ReflectliteValue.methodAny (ReflectliteValue.valueError "reflectlite.Value.Type" 0) (fun t _ _ _ => ReflectliteType.toType t)) Tryz.func62 (by kernel_rfl) (by kernel_rfl) (by kernel_rfl) (by kernel_rfl)
 have x54 := @run_callFunc_extern Tryz.prog 63 _ (ReflectliteValue.method (ReflectliteValue.valueError "reflectlite.Value.IsNil" 0) ReflectliteValue.isNil) Tryz.func63 (by kernel_rfl) (by kernel_rfl) (by kernel_rfl) (by kernel_rfl)
 have xK := @run_callFunc_extern Tryz.prog 156 _ (ReflectliteType.abiMethod fun t => do pure (.int .u8 (← Rtype.kind t))) Tryz.func156 (by kernel_rfl) (by kernel_rfl) (by kernel_rfl) (by kernel_rfl)
 have xE := @run_callFunc_extern Tryz.prog 171 _ (ReflectliteType.method ReflectliteType.elem) Tryz.func171 (by kernel_rfl) (by kernel_rfl) (by kernel_rfl) (by kernel_rfl)
 have xI := @run_callFunc_extern Tryz.prog 172 _ (ReflectliteType.relation "Implements" ReflectliteType.implements_) Tryz.func172 (by kernel_rfl) (by kernel_rfl) (by kernel_rfl) (by kernel_rfl)
 have xT := @run_callFunc_extern Tryz.prog 85 _ ReflectliteType.typeOf Tryz.func85 (by kernel_rfl) (by kernel_rfl) (by kernel_rfl) (by kernel_rfl)
 have xA := @run_callFunc_extern Tryz.prog 169 _ (ReflectliteType.relation "AssignableTo" ReflectliteType.assignableTo) Tryz.func169 (by kernel_rfl) (by kernel_rfl) (by kernel_rfl) (by kernel_rfl)
 have x83 := @run_callFunc_extern Tryz.prog 86 _ (ReflectliteValue.method (ReflectliteValue.valueError "reflectlite.Value.Elem" 0) ReflectliteValue.elem) Tryz.func86 (by kernel_rfl) (by kernel_rfl) (by kernel_rfl) (by kernel_rfl)
 have x84 := @run_callFunc_extern Tryz.prog 87 _ ReflectliteValue.set Tryz.func87 (by kernel_rfl) (by kernel_rfl) (by kernel_rfl) (by kernel_rfl)
 have mK := methodKind
 have mE := methodElem
 have mI := methodImplements
 have mA := methodAssignableTo
 have q1 := valueOf_no
 have q2 := type_no
 have q3 := kind_no
 have q4 := kindE_no
 have q5 := elem_no
 have q6 := implements_no
 have hlt : 0 < w.heap.size := block_lt_of_cell hg
 have htl : t.block < w.heap.size := block_lt_of_cell ht0
 have n8 := isNil_no ⟨w.heap.size, 0, none⟩ t ((w.alloc (.cells #[.pointer (some t)] 76)).alloc (.cells #[.pointer (some ⟨5, 76, none⟩), .pointer (some ⟨w.heap.size, 0, none⟩), .int .u64 150] 120)) (by simp)
 have hg2 : ((w.alloc (.cells #[.pointer (some t)] 76)).alloc (.cells #[.pointer (some ⟨5, 76, none⟩), .pointer (some ⟨w.heap.size, 0, none⟩), .int .u64 150] 120)).cell? ⟨0, 0, none⟩ = some (.iface 149 (.agg #[.pointer (some ⟨5, 28, none⟩)])) := by
  rw [World.cell?_alloc_lt _ _ ⟨0, 0, none⟩ (by simp), World.cell?_alloc_lt _ _ ⟨0, 0, none⟩ hlt]; exact hg
 have el := elemV_no ⟨w.heap.size, 0, none⟩ t (((w.alloc (.cells #[.pointer (some t)] 76)).alloc (.cells #[.pointer (some ⟨5, 76, none⟩), .pointer (some ⟨w.heap.size, 0, none⟩), .int .u64 150] 120)).alloc (.cells #[.pointer (some ⟨5, 76, none⟩), .pointer (some ⟨w.heap.size, 0, none⟩), .int .u64 150] 120)) (by rw [World.cell?_alloc_lt _ _ ⟨w.heap.size, 0, none⟩ (by simp; omega)]; simp)
 have a1 := assign_no
 have a2 := typeOf_no
 have a3 := valueOfE_no
 have st := set_no t ⟨w.heap.size + 1 + 1 + 1, 0, none⟩ n old ((((w.alloc (.cells #[.pointer (some t)] 76)).alloc (.cells #[.pointer (some ⟨5, 76, none⟩), .pointer (some ⟨w.heap.size, 0, none⟩), .int .u64 150] 120)).alloc (.cells #[.pointer (some ⟨5, 76, none⟩), .pointer (some ⟨w.heap.size, 0, none⟩), .int .u64 150] 120)).alloc (.cells #[.int .i64 n] 57))
  (by rw [World.cell?_alloc_at _ _ _ _ (by simp)]; rfl)
  (by rw [World.cell?_alloc_lt _ _ t (by simp; omega), World.cell?_alloc_lt _ _ t (by simp; omega), World.cell?_alloc_lt _ _ t (by simp; omega), World.cell?_alloc_lt _ _ t htl]; exact ht0)
  (by rw [World.frozen?_alloc_old _ _ t (by simp; omega), World.frozen?_alloc_old _ _ t (by simp; omega), World.frozen?_alloc_old _ _ t (by simp; omega), World.frozen?_alloc_old _ _ t (Nat.ne_of_lt htl)]; exact hf0)
 go_enter Tryz.func34, Tryz.ntmps34
 go_wp2
 refine wp_loop_rounds 1 ?_
 rw [rounds_succ]
 go_wp2
 go_ret
 exact ⟨rfl, _, (((((Below.refl _ _).alloc (Nat.le_refl _) _).alloc (by simp) _).alloc (by simp; omega) _).alloc (by simp; omega) _), rfl⟩

set_option maxHeartbeats 8000000 in
set_option maxRecDepth 100000 in
theorem as_fa_fa (e : Addr) (t : Addr) (old : Value) (w : World) (hg : w.cell? ⟨0, 0, none⟩ = some (.iface 149 (.agg #[.pointer (some ⟨5, 28, none⟩)]))) (ht0 : w.cell? t = some old) (hf0 : w.frozen? t = false) :
    Calls Tryz.prog 34 #[.iface 77 (.pointer (some e)), .iface 78 (.pointer (some t))] w fun ev w' => ev = .returned (.bool true) ∧ ∃ w1, Below w.heap.size w w1 ∧ w' = w1.setCell t (.pointer (some e)) := by
 have x52 := @run_callFunc_extern Tryz.prog 61 _ (fun args => ReflectliteValue.unpack (args.getD 0 (.tuple #[]))) Tryz.func61 (by kernel_rfl) (by kernel_rfl) (by kernel_rfl) (by kernel_rfl)
 have x53 := @run_callFunc_extern Tryz.prog 62 _ (ReflectliteValue.methodAny (ReflectliteValue.valueError "reflectlite.Value.Type" 0) (fun t _ _ _ => ReflectliteType.toType t)) Tryz.func62 (by kernel_rfl) (by kernel_rfl) (by kernel_rfl) (by kernel_rfl)
 have x54 := @run_callFunc_extern Tryz.prog 63 _ (ReflectliteValue.method (ReflectliteValue.valueError "reflectlite.Value.IsNil" 0) ReflectliteValue.isNil) Tryz.func63 (by kernel_rfl) (by kernel_rfl) (by kernel_rfl) (by kernel_rfl)
 have xK := @run_callFunc_extern Tryz.prog 156 _ (ReflectliteType.abiMethod fun t => do pure (.int .u8 (← Rtype.kind t))) Tryz.func156 (by kernel_rfl) (by kernel_rfl) (by kernel_rfl) (by kernel_rfl)
 have xE := @run_callFunc_extern Tryz.prog 171 _ (ReflectliteType.method ReflectliteType.elem) Tryz.func171 (by kernel_rfl) (by kernel_rfl) (by kernel_rfl) (by kernel_rfl)
 have xI := @run_callFunc_extern Tryz.prog 172 _ (ReflectliteType.relation "Implements" ReflectliteType.implements_) Tryz.func172 (by kernel_rfl) (by kernel_rfl) (by kernel_rfl) (by kernel_rfl)
 have xT := @run_callFunc_extern Tryz.prog 85 _ ReflectliteType.typeOf Tryz.func85 (by kernel_rfl) (by kernel_rfl) (by kernel_rfl) (by kernel_rfl)
 have xA := @run_callFunc_extern Tryz.prog 169 _ (ReflectliteType.relation "AssignableTo" ReflectliteType.assignableTo) Tryz.func169 (by kernel_rfl) (by kernel_rfl) (by kernel_rfl) (by kernel_rfl)
 have x83 := @run_callFunc_extern Tryz.prog 86 _ (ReflectliteValue.method (ReflectliteValue.valueError "reflectlite.Value.Elem" 0) ReflectliteValue.elem) Tryz.func86 (by kernel_rfl) (by kernel_rfl) (by kernel_rfl) (by kernel_rfl)
 have x84 := @run_callFunc_extern Tryz.prog 87 _ ReflectliteValue.set Tryz.func87 (by kernel_rfl) (by kernel_rfl) (by kernel_rfl) (by kernel_rfl)
 have mK := methodKind
 have mE := methodElem
 have mI := methodImplements
 have mA := methodAssignableTo
 have q1 := valueOf_fa
 have q2 := type_fa
 have q3 := kind_fa
 have q4 := kindE_fa
 have q5 := elem_fa
 have q6 := implements_fa
 have hlt : 0 < w.heap.size := block_lt_of_cell hg
 have htl : t.block < w.heap.size := block_lt_of_cell ht0
 have n8 := isNil_fa ⟨w.heap.size, 0, none⟩ t ((w.alloc (.cells #[.pointer (some t)] 78)).alloc (.cells #[.pointer (some ⟨5, 78, none⟩), .pointer (some ⟨w.heap.size, 0, none⟩), .int .u64 150] 120)) (by simp)
 have hg2 : ((w.alloc (.cells #[.pointer (some t)] 78)).alloc (.cells #[.pointer (some ⟨5, 78, none⟩), .pointer (some ⟨w.heap.size, 0, none⟩), .int .u64 150] 120)).cell? ⟨0, 0, none⟩ = some (.iface 149 (.agg #[.pointer (some ⟨5, 28, none⟩)])) := by
  rw [World.cell?_alloc_lt _ _ ⟨0, 0, none⟩ (by simp), World.cell?_alloc_lt _ _ ⟨0, 0, none⟩ hlt]; exact hg
 have el := elemV_fa ⟨w.heap.size, 0, none⟩ t (((w.alloc (.cells #[.pointer (some t)] 78)).alloc (.cells #[.pointer (some ⟨5, 78, none⟩), .pointer (some ⟨w.heap.size, 0, none⟩), .int .u64 150] 120)).alloc (.cells #[.pointer (some ⟨5, 78, none⟩), .pointer (some ⟨w.heap.size, 0, none⟩), .int .u64 150] 120)) (by rw [World.cell?_alloc_lt _ _ ⟨w.heap.size, 0, none⟩ (by simp; omega)]; simp)
 have a1 := assign_fa
 have a2 := typeOf_fa
 have a3 := valueOfE_fa
 have st := set_fa t ⟨w.heap.size + 1 + 1 + 1, 0, none⟩ e old ((((w.alloc (.cells #[.pointer (some t)] 78)).alloc (.cells #[.pointer (some ⟨5, 78, none⟩), .pointer (some ⟨w.heap.size, 0, none⟩), .int .u64 150] 120)).alloc (.cells #[.pointer (some ⟨5, 78, none⟩), .pointer (some ⟨w.heap.size, 0, none⟩), .int .u64 150] 120)).alloc (.cells #[.pointer (some e)] 77))
  (by rw [World.cell?_alloc_at _ _ _ _ (by simp)]; rfl)
  (by rw [World.cell?_alloc_lt _ _ t (by simp; omega), World.cell?_alloc_lt _ _ t (by simp; omega), World.cell?_alloc_lt _ _ t (by simp; omega), World.cell?_alloc_lt _ _ t htl]; exact ht0)
  (by rw [World.frozen?_alloc_old _ _ t (by simp; omega), World.frozen?_alloc_old _ _ t (by simp; omega), World.frozen?_alloc_old _ _ t (by simp; omega), World.frozen?_alloc_old _ _ t (Nat.ne_of_lt htl)]; exact hf0)
 go_enter Tryz.func34, Tryz.ntmps34
 go_wp2
 refine wp_loop_rounds 1 ?_
 rw [rounds_succ]
 go_wp2
 go_ret
 exact ⟨rfl, _, (((((Below.refl _ _).alloc (Nat.le_refl _) _).alloc (by simp) _).alloc (by simp; omega) _).alloc (by simp; omega) _), rfl⟩
end Go.Proofs.YthodpjcdmdbnoaaGreatDoor

/- errors.As, by its contracts: an Errno where a *Fault is looked for; a *Fault where an Errno is. -/
namespace Go.Proofs.YthodpjcdmdbnoaaGreatDoor
open Go Go.RowKit Go.Extern.Stop Go.Stop Go.Extern

/-! which interfaces the two errors meet -/
theorem asrt_no_As (n : Int) (W : World) : (Instr.typeAssert (.iface 57 (.int .i64 n)) 28 154 true).run Tryz.prog W = .ok (.tuple #[.nilIface, .bool false]) W := run_typeAssert_lacksB Tryz.underlying154 (by kernel_rfl) (by kernel_rfl) _ _ W
theorem asrt_no_U (n : Int) (W : World) : (Instr.typeAssert (.iface 57 (.int .i64 n)) 28 157 true).run Tryz.prog W = .ok (.tuple #[.nilIface, .bool false]) W := run_typeAssert_lacksB Tryz.underlying157 (by kernel_rfl) (by kernel_rfl) _ _ W
theorem asrt_no_Us (n : Int) (W : World) : (Instr.typeAssert (.iface 57 (.int .i64 n)) 28 159 true).run Tryz.prog W = .ok (.tuple #[.nilIface, .bool false]) W := run_typeAssert_lacksB Tryz.underlying159 (by kernel_rfl) (by kernel_rfl) _ _ W
theorem asrt_fa_As (p : Addr) (W : World) : (Instr.typeAssert (.iface 77 (.pointer (some p))) 28 154 true).run Tryz.prog W = .ok (.tuple #[.nilIface, .bool false]) W := run_typeAssert_lacksB Tryz.underlying154 (by kernel_rfl) (by kernel_rfl) _ _ W
theorem asrt_fa_U (p : Addr) (W : World) : (Instr.typeAssert (.iface 77 (.pointer (some p))) 28 157 true).run Tryz.prog W = .ok (.tuple #[.iface 77 (.pointer (some p)), .bool true]) W := run_typeAssert_hasB Tryz.underlying157 (by kernel_rfl) _ _ W
theorem methodUnwrap (p : Value) (w : World) : (Go.method 346 77 p "Unwrap").run Tryz.prog w = .ok (163, p) w := by kernel_rfl

set_option maxHeartbeats 8000000 in
set_option maxRecDepth 100000 in
theorem as_no_fa (n : Int) (t : Addr) (old : Value) (w : World) (hg : w.cell? ⟨0, 0, none⟩ = some (.iface 149 (.agg #[.pointer (some ⟨5, 28, none⟩)]))) (ht0 : w.cell? t = some old) (_hf0 : w.frozen? t = false) :
    Calls Tryz.prog 34 #[.iface 57 (.int .i64 n), .iface 78 (.pointer (some t))] w fun ev w' => ev = .returned (.bool false) ∧ Below w.heap.size w w' := by
 have x52 := @run_callFunc_extern Tryz.prog 61 _ (fun args => ReflectliteValue.unpack (args.getD 0 (.tuple #[]))) Tryz.func61 (by kernel_rfl) (by kernel_rfl) (by kernel_rfl) (by kernel_rfl)
 have x53 := @run_callFunc_extern Tryz.prog 62 _ (ReflectliteValue.methodAny (ReflectliteValue.valueError "reflectlite.Value.Type" 0) (fun t _ _ _ => ReflectliteType.toType t)) Tryz.func62 (by kernel_rfl) (by kernel_rfl) (by kernel_rfl) (by kernel_rfl)
 have x54 := @run_callFunc_extern Tryz.prog 63 _ (ReflectliteValue.method (ReflectliteValue.valueError "reflectlite.Value.IsNil" 0) ReflectliteValue.isNil) Tryz.func63 (by kernel_rfl) (by kernel_rfl) (by kernel_rfl) (by kernel_rfl)
 have xK := @run_callFunc_extern Tryz.prog 156 _ (ReflectliteType.abiMethod fun t => do pure (.int .u8 (← Rtype.kind t))) Tryz.func156 (by kernel_rfl) (by kernel_rfl) (by kernel_rfl) (by kernel_rfl)
 have xE := @run_callFunc_extern Tryz.prog 171 _ (ReflectliteType.method ReflectliteType.elem) Tryz.func171 (by kernel_rfl) (by kernel_rfl) (by kernel_rfl) (by kernel_rfl)
 have xI := @run_callFunc_extern Tryz.prog 172 _ (ReflectliteType.relation "Implements" ReflectliteType.implements_) Tryz.func172 (by kernel_rfl) (by kernel_rfl) (by kernel_rfl) (by kernel_rfl)
 have xT := @run_callFunc_extern Tryz.prog 85 _ ReflectliteType.typeOf Tryz.func85 (by kernel_rfl) (by kernel_rfl) (by kernel_rfl) (by kernel_rfl)
 have xA := @run_callFunc_extern Tryz.prog 169 _ (ReflectliteType.relation "AssignableTo" ReflectliteType.assignableTo) Tryz.func169 (by kernel_rfl) (by kernel_rfl) (by kernel_rfl) (by kernel_rfl)
 have x83 := @run_callFunc_extern Tryz.prog 86 _ (ReflectliteValue.method (ReflectliteValue.valueError "reflectlite.Value.Elem" 0) ReflectliteValue.elem) Tryz.func86 (by kernel_rfl) (by kernel_rfl) (by kernel_rfl) (by kernel_rfl)
 have x84 := @run_callFunc_extern Tryz.prog 87 _ ReflectliteValue.set Tryz.func87 (by kernel_rfl) (by kernel_rfl) (by kernel_rfl) (by kernel_rfl)
 have mK := methodKind
 have mE := methodElem
 have mI := methodImplements
 have mA := methodAssignableTo
 have q1 := valueOf_fa
 have q2 := type_fa
 have q3 := kind_fa
 have q4 := kindE_fa
 have q5 := elem_fa
 have q6 := implements_fa
 have hlt : 0 < w.heap.size := block_lt_of_cell hg
 have htl : t.block < w.heap.size := block_lt_of_cell ht0
 have n8 := isNil_fa ⟨w.heap.size, 0, none⟩ t ((w.alloc (.cells #[.pointer (some t)] 78)).alloc (.cells #[.pointer (some ⟨5, 78, none⟩), .pointer (some ⟨w.heap.size, 0, none⟩), .int .u64 150] 120)) (by simp)
 have hg2 : ((w.alloc (.cells #[.pointer (some t)] 78)).alloc (.cells #[.pointer (some ⟨5, 78, none⟩), .pointer (some ⟨w.heap.size, 0, none⟩), .int .u64 150] 120)).cell? ⟨0, 0, none⟩ = some (.iface 149 (.agg #[.pointer (some ⟨5, 28, none⟩)])) := by
  rw [World.cell?_alloc_lt _ _ ⟨0, 0, none⟩ (by simp), World.cell?_alloc_lt _ _ ⟨0, 0, none⟩ hlt]; exact hg
 have el := elemV_fa ⟨w.heap.size, 0, none⟩ t (((w.alloc (.cells #[.pointer (some t)] 78)).alloc (.cells #[.pointer (some ⟨5, 78, none⟩), .pointer (some ⟨w.heap.size, 0, none⟩), .int .u64 150] 120)).alloc (.cells #[.pointer (some ⟨5, 78, none⟩), .pointer (some ⟨w.heap.size, 0, none⟩), .int .u64 150] 120)) (by rw [World.cell?_alloc_lt _ _ ⟨w.heap.size, 0, none⟩ (by simp; omega)]; simp)
 have a1 := assign_no_fa
 have a2 := typeOf_no
 have r1 := asrt_no_As
 have r2 := asrt_no_U
 have r3 := asrt_no_Us
 go_enter Tryz.func34, Tryz.ntmps34
 go_wp2
 refine wp_loop_rounds 1 ?_
 rw [rounds_succ]
 go_wp2
 go_ret
 exact ⟨rfl, ((((Below.refl _ _).alloc (Nat.le_refl _) _).alloc (by simp) _).alloc (by simp; omega) _)⟩

set_option maxHeartbeats 8000000 in
set_option maxRecDepth 100000 in
theorem as_fa_no (g : Nat) (p n : Int) (t : Addr) (old : Value) (w : World) (hg : w.cell? ⟨0, 0, none⟩ = some (.iface 149 (.agg #[.pointer (some ⟨5, 28, none⟩)]))) (ht0 : w.cell? t = some old) (hf0 : w.frozen? t = false) (hF : Blk w g 80 #[.int .i64 p, .iface 57 (.int .i64 n)]) :
    Calls Tryz.prog 34 #[.iface 77 (.pointer (some ⟨g, 0, none⟩)), .iface 76 (.pointer (some t))] w fun ev w' => ev = .returned (.bool true) ∧ ∃ w1, Below w.heap.size w w1 ∧ w' = w1.setCell t (.int .i64 n) := by
 have x52 := @run_callFunc_extern Tryz.prog 61 _ (fun args => ReflectliteValue.unpack (args.getD 0 (.tuple #[]))) Tryz.func61 (by kernel_rfl) (by kernel_rfl) (by kernel_rfl) (by kernel_rfl)
 have x53 := @run_callFunc_extern Tryz.prog 62 _ (ReflectliteValue.methodAny (ReflectliteValue.valueError "reflectlite.Value.Type" 0) (fun t _ _ _ => ReflectliteType.toType t)) Tryz.func62 (by kernel_rfl) (by kernel_rfl) (by kernel_rfl) (by kernel_rfl)
 have x54 := @run_callFunc_extern Tryz.prog 63 _ (ReflectliteValue.method (ReflectliteValue.valueError "reflectlite.Value.IsNil" 0) ReflectliteValue.isNil) Tryz.func63 (by kernel_rfl) (by kernel_rfl) (by kernel_rfl) (by kernel_rfl)
 have xK := @run_callFunc_extern Tryz.prog 156 _ (ReflectliteType.abiMethod fun t => do pure (.int .u8 (← Rtype.kind t))) Tryz.func156 (by kernel_rfl) (by kernel_rfl) (by kernel_rfl) (by kernel_rfl)
 have xE := @run_callFunc_extern Tryz.prog 171 _ (ReflectliteType.method ReflectliteType.elem) Tryz.func171 (by kernel_rfl) (by kernel_rfl) (by kernel_rfl) (by kernel_rfl)
 have xI := @run_callFunc_extern Tryz.prog 172 _ (ReflectliteType.relation "Implements" ReflectliteType.implements_) Tryz.func172 (by kernel_rfl) (by kernel_rfl) (by kernel_rfl) (by kernel_rfl)
 have xT := @run_callFunc_extern Tryz.prog 85 _ ReflectliteType.typeOf Tryz.func85 (by kernel_rfl) (by kernel_rfl) (by kernel_rfl) (by kernel_rfl)
 have xA := @run_callFunc_extern Tryz.prog 169 _ (ReflectliteType.relation "AssignableTo" ReflectliteType.assignableTo) Tryz.func169 (by kernel_rfl) (by kernel_rfl) (by kernel_rfl) (by kernel_rfl)
 have x83 := @run_callFunc_extern Tryz.prog 86 _ (ReflectliteValue.method (ReflectliteValue.valueError "reflectlite.Value.Elem" 0) ReflectliteValue.elem) Tryz.func86 (by kernel_rfl) (by kernel_rfl) (by kernel_rfl) (by kernel_rfl)
 have x84 := @run_callFunc_extern Tryz.prog 87 _ ReflectliteValue.set Tryz.func87 (by kernel_rfl) (by kernel_rfl) (by kernel_rfl) (by kernel_rfl)
 have mK := methodKind
 have mE := methodElem
 have mI := methodImplements
 have mA := methodAssignableTo
 have q1 := valueOf_no
 have q2 := type_no
 have q3 := kind_no
 have q4 := kindE_no
 have q5 := elem_no
 have q6 := implements_no
 have hlt : 0 < w.heap.size := block_lt_of_cell hg
 have htl : t.block < w.heap.size := block_lt_of_cell ht0
 have n8 := isNil_no ⟨w.heap.size, 0, none⟩ t ((w.alloc (.cells #[.pointer (some t)] 76)).alloc (.cells #[.pointer (some ⟨5, 76, none⟩), .pointer (some ⟨w.heap.size, 0, none⟩), .int .u64 150] 120)) (by simp)
 have hg2 : ((w.alloc (.cells #[.pointer (some t)] 76)).alloc (.cells #[.pointer (some ⟨5, 76, none⟩), .pointer (some ⟨w.heap.size, 0, none⟩), .int .u64 150] 120)).cell? ⟨0, 0, none⟩ = some (.iface 149 (.agg #[.pointer (some ⟨5, 28, none⟩)])) := by
  rw [World.cell?_alloc_lt _ _ ⟨0, 0, none⟩ (by simp), World.cell?_alloc_lt _ _ ⟨0, 0, none⟩ hlt]; exact hg
 have el := elemV_no ⟨w.heap.size, 0, none⟩ t (((w.alloc (.cells #[.pointer (some t)] 76)).alloc (.cells #[.pointer (some ⟨5, 76, none⟩), .pointer (some ⟨w.heap.size, 0, none⟩), .int .u64 150] 120)).alloc (.cells #[.pointer (some ⟨5, 76, none⟩), .pointer (some ⟨w.heap.size, 0, none⟩), .int .u64 150] 120)) (by rw [World.cell?_alloc_lt _ _ ⟨w.heap.size, 0, none⟩ (by simp; omega)]; simp)
 have a1 := assign_fa_no
 have a2 := typeOf_fa
 have a4 := assign_no
 have a5 := typeOf_no
 have a6 := valueOfE_no
 have r1 := asrt_fa_As
 have r2 := asrt_fa_U
 have mU := methodUnwrap
 have cF : (((w.alloc (.cells #[.pointer (some t)] 76)).alloc (.cells #[.pointer (some ⟨5, 76, none⟩), .pointer (some ⟨w.heap.size, 0, none⟩), .int .u64 150] 120)).alloc (.cells #[.pointer (some ⟨5, 76, none⟩), .pointer (some ⟨w.heap.size, 0, none⟩), .int .u64 150] 120)).cell? ⟨g, 1, none⟩ = some (.iface 57 (.int .i64 n)) := (((hF.alloc _).alloc _).alloc _).cell 1
 have st := set_no t ⟨w.heap.size + 1 + 1 + 1, 0, none⟩ n old ((((w.alloc (.cells #[.pointer (some t)] 76)).alloc (.cells #[.pointer (some ⟨5, 76, none⟩), .pointer (some ⟨w.heap.size, 0, none⟩), .int .u64 150] 120)).alloc (.cells #[.pointer (some ⟨5, 76, none⟩), .pointer (some ⟨w.heap.size, 0, none⟩), .int .u64 150] 120)).alloc (.cells #[.int .i64 n] 57))
  (by rw [World.cell?_alloc_at _ _ _ _ (by simp)]; rfl)
  (by rw [World.cell?_alloc_lt _ _ t (by simp; omega), World.cell?_alloc_lt _ _ t (by simp; omega), World.cell?_alloc_lt _ _ t (by simp; omega), World.cell?_alloc_lt _ _ t htl]; exact ht0)
  (by rw [World.frozen?_alloc_old _ _ t (by simp; omega), World.frozen?_alloc_old _ _ t (by simp; omega), World.frozen?_alloc_old _ _ t (by simp; omega), World.frozen?_alloc_old _ _ t (Nat.ne_of_lt htl)]; exact hf0)
 go_enter Tryz.func34, Tryz.ntmps34
 go_wp2
 refine wp_loop_rounds 2 ?_
 rw [rounds_succ]
 go_wp2
 rw [rounds_succ]
 go_wp2
 go_ret
 exact ⟨rfl, _, (((((Below.refl _ _).alloc (Nat.le_refl _) _).alloc (by simp) _).alloc (by simp; omega) _).alloc (by simp; omega) _), rfl⟩
end Go.Proofs.YthodpjcdmdbnoaaGreatDoor

/- The contracts of api.Code, api.At. -/
namespace Go.Proofs.YthodpjcdmdbnoaaGreatDoor
open Go Go.RowKit

/-- the variable errors.errorType holds what its initialiser lays -/
def EtOk (w : World) : Prop := w.cell? ⟨0, 0, none⟩ = some (.iface 149 (.agg #[.pointer (some ⟨5, 28, none⟩)]))
theorem EtOk.lt {w : World} (h : EtOk w) : 0 < w.heap.size := block_lt_of_cell h
theorem EtOk.below {w w' : World} {B : Nat} (h : EtOk w) (hb : Below B w w') (hB : w.heap.size ≤ B) : EtOk w' :=
 (hb.cell (p := ⟨0, 0, none⟩) (Nat.lt_of_lt_of_le h.lt hB)).trans h
theorem EtOk.alloc {w : World} (h : EtOk w) (o : Obj) : EtOk (w.alloc o) := (World.cell?_alloc_lt w o ⟨0, 0, none⟩ h.lt).trans h

def erCode : Er → Int
 | .ok => 0
 | .no n => n
 | .fa _ n => n
def erAt : Er → Int
 | .ok => -1
 | .no _ => -1
 | .fa p _ => p

theorem below_setCell {B : Nat} {a w w1 : World} (hb : Below B a w) (h1 : Below w.heap.size w w1) (hB : B ≤ w.heap.size) (t : Addr) (ht : B ≤ t.block) (v : Value) : Below B a (w1.setCell t v) :=
 (hb.trans (h1.mono hB)).setCell ht v

set_option maxHeartbeats 1000000 in
theorem code_any (v : Value) (er : Er) (B : Nat) (w : World) (hE : ErIs w B v er) (hG : EtOk w) :
    Calls Tryz.prog 11 #[v] w fun e w' => e = .returned (.int .i64 (erCode er)) ∧ Below w.heap.size w w' := by
 have hb0 : Below w.heap.size w (w.alloc (.cells #[.int .i64 0] 57)) := (Below.refl _ _).alloc (Nat.le_refl _) _
 have hN := Blk.new w 57 #[.int .i64 0]
 have hc := hN.cell 0
 rw [show (#[Value.int .i64 0] : Array Value)[0]? = some (.int .i64 0) from rfl] at hc
 have hf := hN.frozen 0
 have hG1 := hG.alloc (.cells #[.int .i64 0] 57)
 cases er with
 | ok =>
  obtain rfl : v = _ := hE
  go_enter Tryz.func11, Tryz.ntmps11
  go_wp2
  go_ret
  exact ⟨rfl, hb0⟩
 | no n =>
  obtain rfl : v = _ := hE
  have HA := Lib.hid (as_no_no (n : Int) ⟨w.heap.size, 0, none⟩ (.int .i64 0) _ hG1 hc hf)
  have hs := hN.lt
  clear hG1 hc hf
  go_enter Tryz.func11, Tryz.ntmps11
  go_wp2_with fail
  refine HA.out.mono ?_
  rintro e w' ⟨rfl, w1, hb1, rfl⟩
  have hN1 := (hN.below hb1 hs).set_ 0 (.int .i64 (n : Int))
  have hc1 := hN1.cell 0
  rw [show ((#[Value.int .i64 0] : Array Value).setIfInBounds 0 (.int .i64 (n : Int)))[0]? = some (.int .i64 (n : Int)) from rfl] at hc1
  have hbb := below_setCell hb0 hb1 (Nat.le_of_lt hs) ⟨w.heap.size, 0, none⟩ (Nat.le_refl _) (.int .i64 (n : Int))
  clear hN1 hN hb1 hb0 HA hG hs
  generalize w1.setCell ⟨w.heap.size, 0, none⟩ (.int .i64 (n : Int)) = w2 at *
  go_wp2
  go_ret
  exact ⟨rfl, hbb⟩
 | fa p n =>
  obtain ⟨g, rfl, hg, hF⟩ := hE
  have HA := Lib.hid (as_fa_no g p (n : Int) ⟨w.heap.size, 0, none⟩ (.int .i64 0) _ hG1 hc hf (hF.alloc _))
  have hs := hN.lt
  clear hG1 hc hf hF
  go_enter Tryz.func11, Tryz.ntmps11
  go_wp2_with fail
  refine HA.out.mono ?_
  rintro e w' ⟨rfl, w1, hb1, rfl⟩
  have hN1 := (hN.below hb1 hs).set_ 0 (.int .i64 (n : Int))
  have hc1 := hN1.cell 0
  rw [show ((#[Value.int .i64 0] : Array Value).setIfInBounds 0 (.int .i64 (n : Int)))[0]? = some (.int .i64 (n : Int)) from rfl] at hc1
  have hbb := below_setCell hb0 hb1 (Nat.le_of_lt hs) ⟨w.heap.size, 0, none⟩ (Nat.le_refl _) (.int .i64 (n : Int))
  clear hN1 hN hb1 hb0 HA hG hs
  generalize w1.setCell ⟨w.heap.size, 0, none⟩ (.int .i64 (n : Int)) = w2 at *
  go_wp2
  go_ret
  exact ⟨rfl, hbb⟩

set_option maxHeartbeats 1000000 in
theorem at_any (v : Value) (er : Er) (B : Nat) (w : World) (hE : ErIs w B v er) (hG : EtOk w) :
    Calls Tryz.prog 13 #[v] w fun e w' => e = .returned (.int .i64 (erAt er)) ∧ Below w.heap.size w w' := by
 have hb0 : Below w.heap.size w (w.alloc (.cells #[.pointer none] 77)) := (Below.refl _ _).alloc (Nat.le_refl _) _
 have hN := Blk.new w 77 #[.pointer none]
 have hc := hN.cell 0
 rw [show (#[Value.pointer none] : Array Value)[0]? = some (.pointer none) from rfl] at hc
 have hf := hN.frozen 0
 have hG1 := hG.alloc (.cells #[.pointer none] 77)
 cases er with
 | ok =>
  obtain rfl : v = _ := hE
  go_enter Tryz.func13, Tryz.ntmps13
  go_wp2
  go_ret
  exact ⟨rfl, hb0⟩
 | no n =>
  obtain rfl : v = _ := hE
  have HA := Lib.hid (as_no_fa (n : Int) ⟨w.heap.size, 0, none⟩ (.pointer none) _ hG1 hc hf)
  have hs := hN.lt
  clear hG1 hc hf
  go_enter Tryz.func13, Tryz.ntmps13
  go_wp2_with fail
  refine HA.out.mono ?_
  rintro e w' ⟨rfl, hb1⟩
  have hbb := hb0.trans (hb1.mono (Nat.le_of_lt hs))
  go_wp2
  go_ret
  exact ⟨rfl, hbb⟩
 | fa p n =>
  obtain ⟨g, rfl, hg, hF⟩ := hE
  have HA := Lib.hid (as_fa_fa ⟨g, 0, none⟩ ⟨w.heap.size, 0, none⟩ (.pointer none) _ hG1 hc hf)
  have hs := hN.lt
  have hgl := hF.lt
  clear hG1 hc hf
  go_enter Tryz.func13, Tryz.ntmps13
  go_wp2_with fail
  refine HA.out.mono ?_
  rintro e w' ⟨rfl, w1, hb1, rfl⟩
  have hN1 := (hN.below hb1 hs).set_ 0 (.pointer (some ⟨g, 0, none⟩))
  have hc1 := hN1.cell 0
  rw [show ((#[Value.pointer none] : Array Value).setIfInBounds 0 (.pointer (some ⟨g, 0, none⟩)))[0]? = some (.pointer (some ⟨g, 0, none⟩)) from rfl] at hc1
  have hbb := below_setCell hb0 hb1 (Nat.le_of_lt hs) ⟨w.heap.size, 0, none⟩ (Nat.le_refl _) (.pointer (some ⟨g, 0, none⟩))
  have hF1 := (hF.below hbb hgl).cell 0
  rw [show (#[Value.int .i64 p, .iface 57 (.int .i64 (n : Int))] : Array Value)[0]? = some (.int .i64 p) from rfl] at hF1
  clear hN1 hN hb1 hb0 HA hG hs hF
  generalize w1.setCell ⟨w.heap.size, 0, none⟩ (.pointer (some ⟨g, 0, none⟩)) = w2 at *
  go_wp2
  go_ret
  exact ⟨rfl, hbb⟩
end Go.Proofs.YthodpjcdmdbnoaaGreatDoor
