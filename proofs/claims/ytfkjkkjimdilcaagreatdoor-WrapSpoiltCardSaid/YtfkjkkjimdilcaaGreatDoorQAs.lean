/- errors.As: closed facts on the entries that it comes to, at the two targets; by the manner of the worked example Toyas. errors.As, by its contracts at the two targets: an Errno, a *Fault. errors.As, by its contracts: an Errno where a *Fault is looked for; a *Fault where an Errno is. The contracts of api.Code, api.At. -/
import Derived.Test.YtfkjkkjimdilcaaGreatDoorQErr
import Derived.LaidEql
import Derived.Stop.Asserts
import Derived.RowKitTokens
set_option maxHeartbeats 8000000
set_option maxRecDepth 100000
/- errors.As: closed facts on the entries that it comes to, at the two targets; by the manner of the worked example Toyas. -/
namespace Go.Proofs.YtfkjkkjimdilcaaGreatDoor
open Go Go.RowKit Go.Extern.Stop Go.Stop Go.Extern

theorem rlm (z : Sem Value) (f : TypeId → Addr → Nat → Nat → Sem Value) (v : Value) :
    ReflectliteValue.method z f #[v] = (do match ← ReflectliteValue.parts v with | none => z | some (t, a, fl) => f t a fl (fl % 32)) := rfl
theorem rls (v x : Value) : ReflectliteValue.set #[v, x] = (do
    let (some (dst, a, fl), some (src, b, _)) := (← ReflectliteValue.parts v, ← ReflectliteValue.parts x)
     | unsupported (.noEntry "extern/(internal/reflectlite.Value).Set.zeroValue")
    if fl / ReflectliteValue.flagAddr % 2 == 0 then unsupported (.noEntry "extern/(internal/reflectlite.Value).Set.unaddressable")
    let val ← loadVar src b
    if ← Rtype.directlyAssignable dst src then storeVar dst a val
    else if ← Rtype.implements dst src then
     if (← Rtype.kind src) == 20 then
      match val with
      | .nilIface => unsupported (.noEntry "extern/reflectlite: a nil value of one interface type handed on as a value of another")
      | _ => storeVar dst a val
     else storeVar dst a (.iface src val)
    else panicString ("reflectlite.Set: value of type " ++ (← Rtype.spelt src) ++ " is not assignable to type " ++ (← Rtype.spelt dst))
    pure (.tuple #[])) := rfl
theorem methodKind (h : Value) (w : World) : (Go.method 368 154 (.agg #[h]) "Kind").run Tryz.prog w = .ok (180, h) w := by kernel_rfl
theorem methodElem (h : Value) (w : World) : (Go.method 368 154 (.agg #[h]) "Elem").run Tryz.prog w = .ok (194, .agg #[h]) w := by kernel_rfl
theorem methodImplements (h : Value) (w : World) : (Go.method 368 154 (.agg #[h]) "Implements").run Tryz.prog w = .ok (195, .agg #[h]) w := by kernel_rfl
theorem methodAssignableTo (h : Value) (w : World) : (Go.method 368 154 (.agg #[h]) "AssignableTo").run Tryz.prog w = .ok (192, .agg #[h]) w := by kernel_rfl

/-! the target no -/
theorem valueOf_no (t : Addr) (w : World) : (ReflectliteValue.unpack (.iface 90 (.pointer (some t)))).run Tryz.prog w
    = .ok (.agg #[.pointer (some ⟨5, 90, none⟩), .pointer (some ⟨w.heap.size, 0, none⟩), .int .u64 150]) (w.alloc (.cells #[.pointer (some t)] 90)) := by kernel_rfl
theorem type_no (a : Addr) (w : World) : (ReflectliteValue.methodAny (ReflectliteValue.valueError "reflectlite.Value.Type" 0) (fun t _ _ _ => ReflectliteType.toType t) #[.agg #[.pointer (some ⟨5, 90, none⟩), .pointer (some a), .int .u64 150]]).run Tryz.prog w
    = .ok (.iface 154 (.agg #[.pointer (some ⟨5, 90, none⟩)])) w := by kernel_rfl
theorem kind_no (w : World) : ((ReflectliteType.abiMethod fun t => (fun a : Nat => Value.int IntKind.u8 (a : Int)) <$> Rtype.kind t) #[.pointer (some ⟨5, 90, none⟩)]).run Tryz.prog w = .ok (.int .u8 22) w := by kernel_rfl
theorem kindE_no (w : World) : ((ReflectliteType.abiMethod fun t => (fun a : Nat => Value.int IntKind.u8 (a : Int)) <$> Rtype.kind t) #[.pointer (some ⟨5, 64, none⟩)]).run Tryz.prog w = .ok (.int .u8 2) w := by kernel_rfl
theorem parts_no (a : Addr) (w : World) : (ReflectliteValue.parts (.agg #[.pointer (some ⟨5, 90, none⟩), .pointer (some a), .int .u64 150])).run Tryz.prog w = .ok (some (90, a, 150)) w := by kernel_rfl
theorem isNil_no (a p : Addr) (W : World) (ha : W.cell? a = some (.pointer (some p))) :
    (ReflectliteValue.method (ReflectliteValue.valueError "reflectlite.Value.IsNil" 0) ReflectliteValue.isNil #[.agg #[.pointer (some ⟨5, 90, none⟩), .pointer (some a), .int .u64 150]]).run Tryz.prog W = .ok (.bool false) W := by
 rw [rlm]; simp only [Sem.run_bind, parts_no, Result.andThen]
 simp [ReflectliteValue.isNil, loadVar, isAgg, underlying, Tryz.underlying90, ha, Result.andThen]
theorem elem_no (w : World) : (ReflectliteType.method ReflectliteType.elem #[.agg #[.pointer (some ⟨5, 90, none⟩)]]).run Tryz.prog w = .ok (.iface 154 (.agg #[.pointer (some ⟨5, 64, none⟩)])) w := by kernel_rfl
theorem implements_no (w : World) : (ReflectliteType.relation "Implements" ReflectliteType.implements_ #[.agg #[.pointer (some ⟨5, 64, none⟩)], .iface 154 (.agg #[.pointer (some ⟨5, 31, none⟩)])]).run Tryz.prog w = .ok (.bool true) w := by kernel_rfl
theorem typeOf_no (v : Value) (w : World) : (ReflectliteType.typeOf #[.iface 64 v]).run Tryz.prog w = .ok (.iface 154 (.agg #[.pointer (some ⟨5, 64, none⟩)])) w := by kernel_rfl
theorem elemOf_no (w : World) : (Rtype.elem? 90).run Tryz.prog w = .ok (some 64) w := by kernel_rfl
theorem mk_no (p : Addr) (w : World) : (ReflectliteValue.mk 64 p ReflectliteValue.flagAddr).run Tryz.prog w = .ok (.agg #[.pointer (some ⟨5, 64, none⟩), .pointer (some p), .int .u64 386]) w := by kernel_rfl
theorem elemV_no (a p : Addr) (W : World) (ha : W.cell? a = some (.pointer (some p))) :
    (ReflectliteValue.method (ReflectliteValue.valueError "reflectlite.Value.Elem" 0) ReflectliteValue.elem #[.agg #[.pointer (some ⟨5, 90, none⟩), .pointer (some a), .int .u64 150]]).run Tryz.prog W
     = .ok (.agg #[.pointer (some ⟨5, 64, none⟩), .pointer (some p), .int .u64 386]) W := by
 rw [rlm]; simp only [Sem.run_bind, parts_no, Result.andThen]
 simp [ReflectliteValue.elem, loadVar, isAgg, underlying, Tryz.underlying90, ha, Result.andThen, elemOf_no, mk_no]
theorem partsA_no (a : Addr) (w : World) : (ReflectliteValue.parts (.agg #[.pointer (some ⟨5, 64, none⟩), .pointer (some a), .int .u64 386])).run Tryz.prog w = .ok (some (64, a, 386)) w := by kernel_rfl
theorem partsE_no (a : Addr) (w : World) : (ReflectliteValue.parts (.agg #[.pointer (some ⟨5, 64, none⟩), .pointer (some a), .int .u64 130])).run Tryz.prog w = .ok (some (64, a, 130)) w := by kernel_rfl
theorem direct_no (w : World) : (Rtype.directlyAssignable 64 64).run Tryz.prog w = .ok true w := by kernel_rfl
theorem assign_no (w : World) : (ReflectliteType.relation "AssignableTo" ReflectliteType.assignableTo #[.agg #[.pointer (some ⟨5, 64, none⟩)], .iface 154 (.agg #[.pointer (some ⟨5, 64, none⟩)])]).run Tryz.prog w = .ok (.bool true) w := by kernel_rfl

/-! the target fa -/
theorem valueOf_fa (t : Addr) (w : World) : (ReflectliteValue.unpack (.iface 91 (.pointer (some t)))).run Tryz.prog w
    = .ok (.agg #[.pointer (some ⟨5, 91, none⟩), .pointer (some ⟨w.heap.size, 0, none⟩), .int .u64 150]) (w.alloc (.cells #[.pointer (some t)] 91)) := by kernel_rfl
theorem type_fa (a : Addr) (w : World) : (ReflectliteValue.methodAny (ReflectliteValue.valueError "reflectlite.Value.Type" 0) (fun t _ _ _ => ReflectliteType.toType t) #[.agg #[.pointer (some ⟨5, 91, none⟩), .pointer (some a), .int .u64 150]]).run Tryz.prog w
    = .ok (.iface 154 (.agg #[.pointer (some ⟨5, 91, none⟩)])) w := by kernel_rfl
theorem kind_fa (w : World) : ((ReflectliteType.abiMethod fun t => (fun a : Nat => Value.int IntKind.u8 (a : Int)) <$> Rtype.kind t) #[.pointer (some ⟨5, 91, none⟩)]).run Tryz.prog w = .ok (.int .u8 22) w := by kernel_rfl
theorem kindE_fa (w : World) : ((ReflectliteType.abiMethod fun t => (fun a : Nat => Value.int IntKind.u8 (a : Int)) <$> Rtype.kind t) #[.pointer (some ⟨5, 74, none⟩)]).run Tryz.prog w = .ok (.int .u8 22) w := by kernel_rfl
theorem parts_fa (a : Addr) (w : World) : (ReflectliteValue.parts (.agg #[.pointer (some ⟨5, 91, none⟩), .pointer (some a), .int .u64 150])).run Tryz.prog w = .ok (some (91, a, 150)) w := by kernel_rfl
theorem isNil_fa (a p : Addr) (W : World) (ha : W.cell? a = some (.pointer (some p))) :
    (ReflectliteValue.method (ReflectliteValue.valueError "reflectlite.Value.IsNil" 0) ReflectliteValue.isNil #[.agg #[.pointer (some ⟨5, 91, none⟩), .pointer (some a), .int .u64 150]]).run Tryz.prog W = .ok (.bool false) W := by
 rw [rlm]; simp only [Sem.run_bind, parts_fa, Result.andThen]
 simp [ReflectliteValue.isNil, loadVar, isAgg, underlying, Tryz.underlying91, ha, Result.andThen]
theorem elem_fa (w : World) : (ReflectliteType.method ReflectliteType.elem #[.agg #[.pointer (some ⟨5, 91, none⟩)]]).run Tryz.prog w = .ok (.iface 154 (.agg #[.pointer (some ⟨5, 74, none⟩)])) w := by kernel_rfl
theorem implements_fa (w : World) : (ReflectliteType.relation "Implements" ReflectliteType.implements_ #[.agg #[.pointer (some ⟨5, 74, none⟩)], .iface 154 (.agg #[.pointer (some ⟨5, 31, none⟩)])]).run Tryz.prog w = .ok (.bool true) w := by kernel_rfl
theorem typeOf_fa (v : Value) (w : World) : (ReflectliteType.typeOf #[.iface 74 v]).run Tryz.prog w = .ok (.iface 154 (.agg #[.pointer (some ⟨5, 74, none⟩)])) w := by kernel_rfl
theorem elemOf_fa (w : World) : (Rtype.elem? 91).run Tryz.prog w = .ok (some 74) w := by kernel_rfl
theorem mk_fa (p : Addr) (w : World) : (ReflectliteValue.mk 74 p ReflectliteValue.flagAddr).run Tryz.prog w = .ok (.agg #[.pointer (some ⟨5, 74, none⟩), .pointer (some p), .int .u64 406]) w := by kernel_rfl
theorem elemV_fa (a p : Addr) (W : World) (ha : W.cell? a = some (.pointer (some p))) :
    (ReflectliteValue.method (ReflectliteValue.valueError "reflectlite.Value.Elem" 0) ReflectliteValue.elem #[.agg #[.pointer (some ⟨5, 91, none⟩), .pointer (some a), .int .u64 150]]).run Tryz.prog W
     = .ok (.agg #[.pointer (some ⟨5, 74, none⟩), .pointer (some p), .int .u64 406]) W := by
 rw [rlm]; simp only [Sem.run_bind, parts_fa, Result.andThen]
 simp [ReflectliteValue.elem, loadVar, isAgg, underlying, Tryz.underlying91, ha, Result.andThen, elemOf_fa, mk_fa]
theorem partsA_fa (a : Addr) (w : World) : (ReflectliteValue.parts (.agg #[.pointer (some ⟨5, 74, none⟩), .pointer (some a), .int .u64 406])).run Tryz.prog w = .ok (some (74, a, 406)) w := by kernel_rfl
theorem partsE_fa (a : Addr) (w : World) : (ReflectliteValue.parts (.agg #[.pointer (some ⟨5, 74, none⟩), .pointer (some a), .int .u64 150])).run Tryz.prog w = .ok (some (74, a, 150)) w := by kernel_rfl
theorem direct_fa (w : World) : (Rtype.directlyAssignable 74 74).run Tryz.prog w = .ok true w := by kernel_rfl
theorem assign_fa (w : World) : (ReflectliteType.relation "AssignableTo" ReflectliteType.assignableTo #[.agg #[.pointer (some ⟨5, 74, none⟩)], .iface 154 (.agg #[.pointer (some ⟨5, 74, none⟩)])]).run Tryz.prog w = .ok (.bool true) w := by kernel_rfl

theorem assign_fa_no (w : World) : (ReflectliteType.relation "AssignableTo" ReflectliteType.assignableTo #[.agg #[.pointer (some ⟨5, 74, none⟩)], .iface 154 (.agg #[.pointer (some ⟨5, 64, none⟩)])]).run Tryz.prog w = .ok (.bool false) w := by kernel_rfl
theorem assign_no_fa (w : World) : (ReflectliteType.relation "AssignableTo" ReflectliteType.assignableTo #[.agg #[.pointer (some ⟨5, 64, none⟩)], .iface 154 (.agg #[.pointer (some ⟨5, 74, none⟩)])]).run Tryz.prog w = .ok (.bool false) w := by kernel_rfl
theorem valueOfE_no (k : IntKind) (n : Int) (w : World) : (ReflectliteValue.unpack (.iface 64 (.int k n))).run Tryz.prog w
    = .ok (.agg #[.pointer (some ⟨5, 64, none⟩), .pointer (some ⟨w.heap.size, 0, none⟩), .int .u64 130]) (w.alloc (.cells #[.int k n] 64)) := by kernel_rfl
theorem valueOfE_fa (e : Addr) (w : World) : (ReflectliteValue.unpack (.iface 74 (.pointer (some e)))).run Tryz.prog w
    = .ok (.agg #[.pointer (some ⟨5, 74, none⟩), .pointer (some ⟨w.heap.size, 0, none⟩), .int .u64 150]) (w.alloc (.cells #[.pointer (some e)] 74)) := by kernel_rfl
/-- (Value).Set of a number -/
theorem set_no (ta b : Addr) (n : Int) (old : Value) (W : World) (hb : W.cell? b = some (.int .i64 n)) (ht : W.cell? ta = some old) (hf : W.frozen? ta = false) :
    (ReflectliteValue.set #[.agg #[.pointer (some ⟨5, 64, none⟩), .pointer (some ta), .int .u64 386], .agg #[.pointer (some ⟨5, 64, none⟩), .pointer (some b), .int .u64 130]]).run Tryz.prog W
     = .ok (.tuple #[]) (W.setCell ta (.int .i64 n)) := by
 rw [rls]; simp only [Sem.run_bind, partsA_no, partsE_no, Result.andThen]
 simp [ReflectliteValue.flagAddr, loadVar, isAgg, underlying, Tryz.underlying64, hb, Result.andThen, direct_no, storeVar, Value.cells, storeCells, Addr.add]
 rw [run_store Tryz.prog W ta _ _ (by rfl)]
 simp [ht, hf]
theorem set_fa (ta b e : Addr) (old : Value) (W : World) (hb : W.cell? b = some (.pointer (some e))) (ht : W.cell? ta = some old) (hf : W.frozen? ta = false) :
    (ReflectliteValue.set #[.agg #[.pointer (some ⟨5, 74, none⟩), .pointer (some ta), .int .u64 406], .agg #[.pointer (some ⟨5, 74, none⟩), .pointer (some b), .int .u64 150]]).run Tryz.prog W
     = .ok (.tuple #[]) (W.setCell ta (.pointer (some e))) := by
 rw [rls]; simp only [Sem.run_bind, partsA_fa, partsE_fa, Result.andThen]
 simp [ReflectliteValue.flagAddr, loadVar, isAgg, underlying, Tryz.underlying74, hb, Result.andThen, direct_fa, storeVar, Value.cells, storeCells, Addr.add]
 rw [run_store Tryz.prog W ta _ _ (by rfl)]
 simp [ht, hf]


theorem as_no_no (n : Int) (t : Addr) (old : Value) (w : World) (hg : w.cell? ⟨0, 0, none⟩ = some (.iface 154 (.agg #[.pointer (some ⟨5, 31, none⟩)]))) (ht0 : w.cell? t = some old) (hf0 : w.frozen? t = false) :
    Calls Tryz.prog 47 #[.iface 64 (.int .i64 n), .iface 90 (.pointer (some t))] w fun ev w' => ev = .returned (.bool true) ∧ ∃ w1, Below w.heap.size w w1 ∧ w' = w1.setCell t (.int .i64 n) := by
 have x52 := @run_callFunc_extern Tryz.prog 80 _ (fun args => ReflectliteValue.unpack (args.getD 0 (.tuple #[]))) Tryz.func80 (by kernel_rfl) (by kernel_rfl) (by kernel_rfl) (by kernel_rfl); have x53 := @run_callFunc_extern Tryz.prog 81 _ (ReflectliteValue.methodAny (ReflectliteValue.valueError "reflectlite.Value.Type" 0) (fun t _ _ _ => ReflectliteType.toType t)) Tryz.func81 (by kernel_rfl) (by kernel_rfl) (by kernel_rfl) (by kernel_rfl); have x54 := @run_callFunc_extern Tryz.prog 82 _ (ReflectliteValue.method (ReflectliteValue.valueError "reflectlite.Value.IsNil" 0) ReflectliteValue.isNil) Tryz.func82 (by kernel_rfl) (by kernel_rfl) (by kernel_rfl) (by kernel_rfl); have xK := @run_callFunc_extern Tryz.prog 180 _ (ReflectliteType.abiMethod fun t => do pure (.int .u8 (← Rtype.kind t))) Tryz.func180 (by kernel_rfl) (by kernel_rfl) (by kernel_rfl) (by kernel_rfl); have xE := @run_callFunc_extern Tryz.prog 194 _ (ReflectliteType.method ReflectliteType.elem) Tryz.func194 (by kernel_rfl) (by kernel_rfl) (by kernel_rfl) (by kernel_rfl); have xI := @run_callFunc_extern Tryz.prog 195 _ (ReflectliteType.relation "Implements" ReflectliteType.implements_) Tryz.func195 (by kernel_rfl) (by kernel_rfl) (by kernel_rfl) (by kernel_rfl); have xT := @run_callFunc_extern Tryz.prog 102 _ ReflectliteType.typeOf Tryz.func102 (by kernel_rfl) (by kernel_rfl) (by kernel_rfl) (by kernel_rfl); have xA := @run_callFunc_extern Tryz.prog 192 _ (ReflectliteType.relation "AssignableTo" ReflectliteType.assignableTo) Tryz.func192 (by kernel_rfl) (by kernel_rfl) (by kernel_rfl) (by kernel_rfl); have x83 := @run_callFunc_extern Tryz.prog 103 _ (ReflectliteValue.method (ReflectliteValue.valueError "reflectlite.Value.Elem" 0) ReflectliteValue.elem) Tryz.func103 (by kernel_rfl) (by kernel_rfl) (by kernel_rfl) (by kernel_rfl); have x84 := @run_callFunc_extern Tryz.prog 104 _ ReflectliteValue.set Tryz.func104 (by kernel_rfl) (by kernel_rfl) (by kernel_rfl) (by kernel_rfl); have mK := methodKind; have mE := methodElem; have mI := methodImplements; have mA := methodAssignableTo; have q1 := valueOf_no; have q2 := type_no; have q3 := kind_no; have q4 := kindE_no; have q5 := elem_no; have q6 := implements_no; have hlt : 0 < w.heap.size := block_lt_of_cell hg; have htl : t.block < w.heap.size := block_lt_of_cell ht0; have n8 := isNil_no ⟨w.heap.size, 0, none⟩ t ((w.alloc (.cells #[.pointer (some t)] 90)).alloc (.cells #[.pointer (some ⟨5, 90, none⟩), .pointer (some ⟨w.heap.size, 0, none⟩), .int .u64 150] 126)) (by simp)
 have hg2 : ((w.alloc (.cells #[.pointer (some t)] 90)).alloc (.cells #[.pointer (some ⟨5, 90, none⟩), .pointer (some ⟨w.heap.size, 0, none⟩), .int .u64 150] 126)).cell? ⟨0, 0, none⟩ = some (.iface 154 (.agg #[.pointer (some ⟨5, 31, none⟩)])) := by
  rw [World.cell?_alloc_lt _ _ ⟨0, 0, none⟩ (by simp), World.cell?_alloc_lt _ _ ⟨0, 0, none⟩ hlt]; exact hg
 have el := elemV_no ⟨w.heap.size, 0, none⟩ t (((w.alloc (.cells #[.pointer (some t)] 90)).alloc (.cells #[.pointer (some ⟨5, 90, none⟩), .pointer (some ⟨w.heap.size, 0, none⟩), .int .u64 150] 126)).alloc (.cells #[.pointer (some ⟨5, 90, none⟩), .pointer (some ⟨w.heap.size, 0, none⟩), .int .u64 150] 126)) (by rw [World.cell?_alloc_lt _ _ ⟨w.heap.size, 0, none⟩ (by simp; omega)]; simp); have a1 := assign_no; have a2 := typeOf_no; have a3 := valueOfE_no
 have st := set_no t ⟨w.heap.size + 1 + 1 + 1, 0, none⟩ n old ((((w.alloc (.cells #[.pointer (some t)] 90)).alloc (.cells #[.pointer (some ⟨5, 90, none⟩), .pointer (some ⟨w.heap.size, 0, none⟩), .int .u64 150] 126)).alloc (.cells #[.pointer (some ⟨5, 90, none⟩), .pointer (some ⟨w.heap.size, 0, none⟩), .int .u64 150] 126)).alloc (.cells #[.int .i64 n] 64))
  (by rw [World.cell?_alloc_at _ _ _ _ (by simp)]; rfl)
  (by rw [World.cell?_alloc_lt _ _ t (by simp; omega), World.cell?_alloc_lt _ _ t (by simp; omega), World.cell?_alloc_lt _ _ t (by simp; omega), World.cell?_alloc_lt _ _ t htl]; exact ht0)
  (by rw [World.frozen?_alloc_old _ _ t (by simp; omega), World.frozen?_alloc_old _ _ t (by simp; omega), World.frozen?_alloc_old _ _ t (by simp; omega), World.frozen?_alloc_old _ _ t (Nat.ne_of_lt htl)]; exact hf0)
 go_enter Tryz.func47, Tryz.ntmps47
 go_wp2
 refine wp_loop_rounds 1 ?_; rw [rounds_succ]; go_wp2
 go_ret
 exact ⟨rfl, _, (((((Below.refl _ _).alloc lr _).alloc (by simp) _).alloc (by simp; omega) _).alloc (by simp; omega) _), rfl⟩

theorem as_fa_fa (e : Addr) (t : Addr) (old : Value) (w : World) (hg : w.cell? ⟨0, 0, none⟩ = some (.iface 154 (.agg #[.pointer (some ⟨5, 31, none⟩)]))) (ht0 : w.cell? t = some old) (hf0 : w.frozen? t = false) :
    Calls Tryz.prog 47 #[.iface 74 (.pointer (some e)), .iface 91 (.pointer (some t))] w fun ev w' => ev = .returned (.bool true) ∧ ∃ w1, Below w.heap.size w w1 ∧ w' = w1.setCell t (.pointer (some e)) := by
 have x52 := @run_callFunc_extern Tryz.prog 80 _ (fun args => ReflectliteValue.unpack (args.getD 0 (.tuple #[]))) Tryz.func80 (by kernel_rfl) (by kernel_rfl) (by kernel_rfl) (by kernel_rfl); have x53 := @run_callFunc_extern Tryz.prog 81 _ (ReflectliteValue.methodAny (ReflectliteValue.valueError "reflectlite.Value.Type" 0) (fun t _ _ _ => ReflectliteType.toType t)) Tryz.func81 (by kernel_rfl) (by kernel_rfl) (by kernel_rfl) (by kernel_rfl); have x54 := @run_callFunc_extern Tryz.prog 82 _ (ReflectliteValue.method (ReflectliteValue.valueError "reflectlite.Value.IsNil" 0) ReflectliteValue.isNil) Tryz.func82 (by kernel_rfl) (by kernel_rfl) (by kernel_rfl) (by kernel_rfl); have xK := @run_callFunc_extern Tryz.prog 180 _ (ReflectliteType.abiMethod fun t => do pure (.int .u8 (← Rtype.kind t))) Tryz.func180 (by kernel_rfl) (by kernel_rfl) (by kernel_rfl) (by kernel_rfl); have xE := @run_callFunc_extern Tryz.prog 194 _ (ReflectliteType.method ReflectliteType.elem) Tryz.func194 (by kernel_rfl) (by kernel_rfl) (by kernel_rfl) (by kernel_rfl); have xI := @run_callFunc_extern Tryz.prog 195 _ (ReflectliteType.relation "Implements" ReflectliteType.implements_) Tryz.func195 (by kernel_rfl) (by kernel_rfl) (by kernel_rfl) (by kernel_rfl); have xT := @run_callFunc_extern Tryz.prog 102 _ ReflectliteType.typeOf Tryz.func102 (by kernel_rfl) (by kernel_rfl) (by kernel_rfl) (by kernel_rfl); have xA := @run_callFunc_extern Tryz.prog 192 _ (ReflectliteType.relation "AssignableTo" ReflectliteType.assignableTo) Tryz.func192 (by kernel_rfl) (by kernel_rfl) (by kernel_rfl) (by kernel_rfl); have x83 := @run_callFunc_extern Tryz.prog 103 _ (ReflectliteValue.method (ReflectliteValue.valueError "reflectlite.Value.Elem" 0) ReflectliteValue.elem) Tryz.func103 (by kernel_rfl) (by kernel_rfl) (by kernel_rfl) (by kernel_rfl); have x84 := @run_callFunc_extern Tryz.prog 104 _ ReflectliteValue.set Tryz.func104 (by kernel_rfl) (by kernel_rfl) (by kernel_rfl) (by kernel_rfl); have mK := methodKind; have mE := methodElem; have mI := methodImplements; have mA := methodAssignableTo; have q1 := valueOf_fa; have q2 := type_fa; have q3 := kind_fa; have q4 := kindE_fa; have q5 := elem_fa; have q6 := implements_fa; have hlt : 0 < w.heap.size := block_lt_of_cell hg; have htl : t.block < w.heap.size := block_lt_of_cell ht0; have n8 := isNil_fa ⟨w.heap.size, 0, none⟩ t ((w.alloc (.cells #[.pointer (some t)] 91)).alloc (.cells #[.pointer (some ⟨5, 91, none⟩), .pointer (some ⟨w.heap.size, 0, none⟩), .int .u64 150] 126)) (by simp)
 have hg2 : ((w.alloc (.cells #[.pointer (some t)] 91)).alloc (.cells #[.pointer (some ⟨5, 91, none⟩), .pointer (some ⟨w.heap.size, 0, none⟩), .int .u64 150] 126)).cell? ⟨0, 0, none⟩ = some (.iface 154 (.agg #[.pointer (some ⟨5, 31, none⟩)])) := by
  rw [World.cell?_alloc_lt _ _ ⟨0, 0, none⟩ (by simp), World.cell?_alloc_lt _ _ ⟨0, 0, none⟩ hlt]; exact hg
 have el := elemV_fa ⟨w.heap.size, 0, none⟩ t (((w.alloc (.cells #[.pointer (some t)] 91)).alloc (.cells #[.pointer (some ⟨5, 91, none⟩), .pointer (some ⟨w.heap.size, 0, none⟩), .int .u64 150] 126)).alloc (.cells #[.pointer (some ⟨5, 91, none⟩), .pointer (some ⟨w.heap.size, 0, none⟩), .int .u64 150] 126)) (by rw [World.cell?_alloc_lt _ _ ⟨w.heap.size, 0, none⟩ (by simp; omega)]; simp); have a1 := assign_fa; have a2 := typeOf_fa; have a3 := valueOfE_fa
 have st := set_fa t ⟨w.heap.size + 1 + 1 + 1, 0, none⟩ e old ((((w.alloc (.cells #[.pointer (some t)] 91)).alloc (.cells #[.pointer (some ⟨5, 91, none⟩), .pointer (some ⟨w.heap.size, 0, none⟩), .int .u64 150] 126)).alloc (.cells #[.pointer (some ⟨5, 91, none⟩), .pointer (some ⟨w.heap.size, 0, none⟩), .int .u64 150] 126)).alloc (.cells #[.pointer (some e)] 74))
  (by rw [World.cell?_alloc_at _ _ _ _ (by simp)]; rfl)
  (by rw [World.cell?_alloc_lt _ _ t (by simp; omega), World.cell?_alloc_lt _ _ t (by simp; omega), World.cell?_alloc_lt _ _ t (by simp; omega), World.cell?_alloc_lt _ _ t htl]; exact ht0)
  (by rw [World.frozen?_alloc_old _ _ t (by simp; omega), World.frozen?_alloc_old _ _ t (by simp; omega), World.frozen?_alloc_old _ _ t (by simp; omega), World.frozen?_alloc_old _ _ t (Nat.ne_of_lt htl)]; exact hf0)
 go_enter Tryz.func47, Tryz.ntmps47
 go_wp2
 refine wp_loop_rounds 1 ?_; rw [rounds_succ]; go_wp2
 go_ret
 exact ⟨rfl, _, (((((Below.refl _ _).alloc lr _).alloc (by simp) _).alloc (by simp; omega) _).alloc (by simp; omega) _), rfl⟩

/-! which interfaces the two errors meet -/
theorem asrt_no_As (n : Int) (W : World) : (Instr.typeAssert (.iface 64 (.int .i64 n)) 31 159 true).run Tryz.prog W = .ok (.tuple #[.nilIface, .bool false]) W := run_typeAssert_lacksB Tryz.underlying159 (by kernel_rfl) (by kernel_rfl) _ _ W
theorem asrt_no_U (n : Int) (W : World) : (Instr.typeAssert (.iface 64 (.int .i64 n)) 31 162 true).run Tryz.prog W = .ok (.tuple #[.nilIface, .bool false]) W := run_typeAssert_lacksB Tryz.underlying162 (by kernel_rfl) (by kernel_rfl) _ _ W
theorem asrt_no_Us (n : Int) (W : World) : (Instr.typeAssert (.iface 64 (.int .i64 n)) 31 164 true).run Tryz.prog W = .ok (.tuple #[.nilIface, .bool false]) W := run_typeAssert_lacksB Tryz.underlying164 (by kernel_rfl) (by kernel_rfl) _ _ W
theorem asrt_fa_As (p : Addr) (W : World) : (Instr.typeAssert (.iface 74 (.pointer (some p))) 31 159 true).run Tryz.prog W = .ok (.tuple #[.nilIface, .bool false]) W := run_typeAssert_lacksB Tryz.underlying159 (by kernel_rfl) (by kernel_rfl) _ _ W
theorem asrt_fa_U (p : Addr) (W : World) : (Instr.typeAssert (.iface 74 (.pointer (some p))) 31 162 true).run Tryz.prog W = .ok (.tuple #[.iface 74 (.pointer (some p)), .bool true]) W := run_typeAssert_hasB Tryz.underlying162 (by kernel_rfl) _ _ W
theorem methodUnwrap (p : Value) (w : World) : (Go.method 368 74 p "Unwrap").run Tryz.prog w = .ok (185, p) w := by kernel_rfl

theorem as_no_fa (n : Int) (t : Addr) (old : Value) (w : World) (hg : w.cell? ⟨0, 0, none⟩ = some (.iface 154 (.agg #[.pointer (some ⟨5, 31, none⟩)]))) (ht0 : w.cell? t = some old) (_hf0 : w.frozen? t = false) :
    Calls Tryz.prog 47 #[.iface 64 (.int .i64 n), .iface 91 (.pointer (some t))] w fun ev w' => ev = .returned (.bool false) ∧ Below w.heap.size w w' := by
 have x52 := @run_callFunc_extern Tryz.prog 80 _ (fun args => ReflectliteValue.unpack (args.getD 0 (.tuple #[]))) Tryz.func80 (by kernel_rfl) (by kernel_rfl) (by kernel_rfl) (by kernel_rfl); have x53 := @run_callFunc_extern Tryz.prog 81 _ (ReflectliteValue.methodAny (ReflectliteValue.valueError "reflectlite.Value.Type" 0) (fun t _ _ _ => ReflectliteType.toType t)) Tryz.func81 (by kernel_rfl) (by kernel_rfl) (by kernel_rfl) (by kernel_rfl); have x54 := @run_callFunc_extern Tryz.prog 82 _ (ReflectliteValue.method (ReflectliteValue.valueError "reflectlite.Value.IsNil" 0) ReflectliteValue.isNil) Tryz.func82 (by kernel_rfl) (by kernel_rfl) (by kernel_rfl) (by kernel_rfl); have xK := @run_callFunc_extern Tryz.prog 180 _ (ReflectliteType.abiMethod fun t => do pure (.int .u8 (← Rtype.kind t))) Tryz.func180 (by kernel_rfl) (by kernel_rfl) (by kernel_rfl) (by kernel_rfl); have xE := @run_callFunc_extern Tryz.prog 194 _ (ReflectliteType.method ReflectliteType.elem) Tryz.func194 (by kernel_rfl) (by kernel_rfl) (by kernel_rfl) (by kernel_rfl); have xI := @run_callFunc_extern Tryz.prog 195 _ (ReflectliteType.relation "Implements" ReflectliteType.implements_) Tryz.func195 (by kernel_rfl) (by kernel_rfl) (by kernel_rfl) (by kernel_rfl); have xT := @run_callFunc_extern Tryz.prog 102 _ ReflectliteType.typeOf Tryz.func102 (by kernel_rfl) (by kernel_rfl) (by kernel_rfl) (by kernel_rfl); have xA := @run_callFunc_extern Tryz.prog 192 _ (ReflectliteType.relation "AssignableTo" ReflectliteType.assignableTo) Tryz.func192 (by kernel_rfl) (by kernel_rfl) (by kernel_rfl) (by kernel_rfl); have x83 := @run_callFunc_extern Tryz.prog 103 _ (ReflectliteValue.method (ReflectliteValue.valueError "reflectlite.Value.Elem" 0) ReflectliteValue.elem) Tryz.func103 (by kernel_rfl) (by kernel_rfl) (by kernel_rfl) (by kernel_rfl); have x84 := @run_callFunc_extern Tryz.prog 104 _ ReflectliteValue.set Tryz.func104 (by kernel_rfl) (by kernel_rfl) (by kernel_rfl) (by kernel_rfl); have mK := methodKind; have mE := methodElem; have mI := methodImplements; have mA := methodAssignableTo; have q1 := valueOf_fa; have q2 := type_fa; have q3 := kind_fa; have q4 := kindE_fa; have q5 := elem_fa; have q6 := implements_fa; have hlt : 0 < w.heap.size := block_lt_of_cell hg; have htl : t.block < w.heap.size := block_lt_of_cell ht0; have n8 := isNil_fa ⟨w.heap.size, 0, none⟩ t ((w.alloc (.cells #[.pointer (some t)] 91)).alloc (.cells #[.pointer (some ⟨5, 91, none⟩), .pointer (some ⟨w.heap.size, 0, none⟩), .int .u64 150] 126)) (by simp)
 have hg2 : ((w.alloc (.cells #[.pointer (some t)] 91)).alloc (.cells #[.pointer (some ⟨5, 91, none⟩), .pointer (some ⟨w.heap.size, 0, none⟩), .int .u64 150] 126)).cell? ⟨0, 0, none⟩ = some (.iface 154 (.agg #[.pointer (some ⟨5, 31, none⟩)])) := by
  rw [World.cell?_alloc_lt _ _ ⟨0, 0, none⟩ (by simp), World.cell?_alloc_lt _ _ ⟨0, 0, none⟩ hlt]; exact hg
 have el := elemV_fa ⟨w.heap.size, 0, none⟩ t (((w.alloc (.cells #[.pointer (some t)] 91)).alloc (.cells #[.pointer (some ⟨5, 91, none⟩), .pointer (some ⟨w.heap.size, 0, none⟩), .int .u64 150] 126)).alloc (.cells #[.pointer (some ⟨5, 91, none⟩), .pointer (some ⟨w.heap.size, 0, none⟩), .int .u64 150] 126)) (by rw [World.cell?_alloc_lt _ _ ⟨w.heap.size, 0, none⟩ (by simp; omega)]; simp); have a1 := assign_no_fa; have a2 := typeOf_no; have r1 := asrt_no_As; have r2 := asrt_no_U; have r3 := asrt_no_Us
 go_enter Tryz.func47, Tryz.ntmps47
 go_wp2
 refine wp_loop_rounds 1 ?_; rw [rounds_succ]; go_wp2
 go_ret
 exact ⟨rfl, ((((Below.refl _ _).alloc lr _).alloc (by simp) _).alloc (by simp; omega) _)⟩

theorem as_fa_no (g : Nat) (p n : Int) (t : Addr) (old : Value) (w : World) (hg : w.cell? ⟨0, 0, none⟩ = some (.iface 154 (.agg #[.pointer (some ⟨5, 31, none⟩)]))) (ht0 : w.cell? t = some old) (hf0 : w.frozen? t = false) (hF : Blk w g 76 #[.int .i64 p, .iface 64 (.int .i64 n)]) :
    Calls Tryz.prog 47 #[.iface 74 (.pointer (some ⟨g, 0, none⟩)), .iface 90 (.pointer (some t))] w fun ev w' => ev = .returned (.bool true) ∧ ∃ w1, Below w.heap.size w w1 ∧ w' = w1.setCell t (.int .i64 n) := by
 have x52 := @run_callFunc_extern Tryz.prog 80 _ (fun args => ReflectliteValue.unpack (args.getD 0 (.tuple #[]))) Tryz.func80 (by kernel_rfl) (by kernel_rfl) (by kernel_rfl) (by kernel_rfl); have x53 := @run_callFunc_extern Tryz.prog 81 _ (ReflectliteValue.methodAny (ReflectliteValue.valueError "reflectlite.Value.Type" 0) (fun t _ _ _ => ReflectliteType.toType t)) Tryz.func81 (by kernel_rfl) (by kernel_rfl) (by kernel_rfl) (by kernel_rfl); have x54 := @run_callFunc_extern Tryz.prog 82 _ (ReflectliteValue.method (ReflectliteValue.valueError "reflectlite.Value.IsNil" 0) ReflectliteValue.isNil) Tryz.func82 (by kernel_rfl) (by kernel_rfl) (by kernel_rfl) (by kernel_rfl); have xK := @run_callFunc_extern Tryz.prog 180 _ (ReflectliteType.abiMethod fun t => do pure (.int .u8 (← Rtype.kind t))) Tryz.func180 (by kernel_rfl) (by kernel_rfl) (by kernel_rfl) (by kernel_rfl); have xE := @run_callFunc_extern Tryz.prog 194 _ (ReflectliteType.method ReflectliteType.elem) Tryz.func194 (by kernel_rfl) (by kernel_rfl) (by kernel_rfl) (by kernel_rfl); have xI := @run_callFunc_extern Tryz.prog 195 _ (ReflectliteType.relation "Implements" ReflectliteType.implements_) Tryz.func195 (by kernel_rfl) (by kernel_rfl) (by kernel_rfl) (by kernel_rfl); have xT := @run_callFunc_extern Tryz.prog 102 _ ReflectliteType.typeOf Tryz.func102 (by kernel_rfl) (by kernel_rfl) (by kernel_rfl) (by kernel_rfl); have xA := @run_callFunc_extern Tryz.prog 192 _ (ReflectliteType.relation "AssignableTo" ReflectliteType.assignableTo) Tryz.func192 (by kernel_rfl) (by kernel_rfl) (by kernel_rfl) (by kernel_rfl); have x83 := @run_callFunc_extern Tryz.prog 103 _ (ReflectliteValue.method (ReflectliteValue.valueError "reflectlite.Value.Elem" 0) ReflectliteValue.elem) Tryz.func103 (by kernel_rfl) (by kernel_rfl) (by kernel_rfl) (by kernel_rfl); have x84 := @run_callFunc_extern Tryz.prog 104 _ ReflectliteValue.set Tryz.func104 (by kernel_rfl) (by kernel_rfl) (by kernel_rfl) (by kernel_rfl); have mK := methodKind; have mE := methodElem; have mI := methodImplements; have mA := methodAssignableTo; have q1 := valueOf_no; have q2 := type_no; have q3 := kind_no; have q4 := kindE_no; have q5 := elem_no; have q6 := implements_no; have hlt : 0 < w.heap.size := block_lt_of_cell hg; have htl : t.block < w.heap.size := block_lt_of_cell ht0; have n8 := isNil_no ⟨w.heap.size, 0, none⟩ t ((w.alloc (.cells #[.pointer (some t)] 90)).alloc (.cells #[.pointer (some ⟨5, 90, none⟩), .pointer (some ⟨w.heap.size, 0, none⟩), .int .u64 150] 126)) (by simp)
 have hg2 : ((w.alloc (.cells #[.pointer (some t)] 90)).alloc (.cells #[.pointer (some ⟨5, 90, none⟩), .pointer (some ⟨w.heap.size, 0, none⟩), .int .u64 150] 126)).cell? ⟨0, 0, none⟩ = some (.iface 154 (.agg #[.pointer (some ⟨5, 31, none⟩)])) := by
  rw [World.cell?_alloc_lt _ _ ⟨0, 0, none⟩ (by simp), World.cell?_alloc_lt _ _ ⟨0, 0, none⟩ hlt]; exact hg
 have el := elemV_no ⟨w.heap.size, 0, none⟩ t (((w.alloc (.cells #[.pointer (some t)] 90)).alloc (.cells #[.pointer (some ⟨5, 90, none⟩), .pointer (some ⟨w.heap.size, 0, none⟩), .int .u64 150] 126)).alloc (.cells #[.pointer (some ⟨5, 90, none⟩), .pointer (some ⟨w.heap.size, 0, none⟩), .int .u64 150] 126)) (by rw [World.cell?_alloc_lt _ _ ⟨w.heap.size, 0, none⟩ (by simp; omega)]; simp); have a1 := assign_fa_no; have a2 := typeOf_fa; have a4 := assign_no; have a5 := typeOf_no; have a6 := valueOfE_no; have r1 := asrt_fa_As; have r2 := asrt_fa_U; have mU := methodUnwrap; have cF : (((w.alloc (.cells #[.pointer (some t)] 90)).alloc (.cells #[.pointer (some ⟨5, 90, none⟩), .pointer (some ⟨w.heap.size, 0, none⟩), .int .u64 150] 126)).alloc (.cells #[.pointer (some ⟨5, 90, none⟩), .pointer (some ⟨w.heap.size, 0, none⟩), .int .u64 150] 126)).cell? ⟨g, 1, none⟩ = some (.iface 64 (.int .i64 n)) := (((hF.alloc _).alloc _).alloc _).cell 1
 have st := set_no t ⟨w.heap.size + 1 + 1 + 1, 0, none⟩ n old ((((w.alloc (.cells #[.pointer (some t)] 90)).alloc (.cells #[.pointer (some ⟨5, 90, none⟩), .pointer (some ⟨w.heap.size, 0, none⟩), .int .u64 150] 126)).alloc (.cells #[.pointer (some ⟨5, 90, none⟩), .pointer (some ⟨w.heap.size, 0, none⟩), .int .u64 150] 126)).alloc (.cells #[.int .i64 n] 64))
  (by rw [World.cell?_alloc_at _ _ _ _ (by simp)]; rfl)
  (by rw [World.cell?_alloc_lt _ _ t (by simp; omega), World.cell?_alloc_lt _ _ t (by simp; omega), World.cell?_alloc_lt _ _ t (by simp; omega), World.cell?_alloc_lt _ _ t htl]; exact ht0)
  (by rw [World.frozen?_alloc_old _ _ t (by simp; omega), World.frozen?_alloc_old _ _ t (by simp; omega), World.frozen?_alloc_old _ _ t (by simp; omega), World.frozen?_alloc_old _ _ t (Nat.ne_of_lt htl)]; exact hf0)
 go_enter Tryz.func47, Tryz.ntmps47
 go_wp2
 refine wp_loop_rounds 2 ?_; rw [rounds_succ]; go_wp2
 rw [rounds_succ]; go_wp2
 go_ret
 exact ⟨rfl, _, (((((Below.refl _ _).alloc lr _).alloc (by simp) _).alloc (by simp; omega) _).alloc (by simp; omega) _), rfl⟩
end Go.Proofs.YtfkjkkjimdilcaaGreatDoor

/- The contracts of api.Code, api.At. -/
namespace Go.Proofs.YtfkjkkjimdilcaaGreatDoor
open Go Go.RowKit

/-- the variable errors.errorType holds what its initialiser lays -/
def EtOk (w : World) : Prop := w.cell? ⟨0, 0, none⟩ = some (.iface 154 (.agg #[.pointer (some ⟨5, 31, none⟩)]))
theorem EtOk.lt {w : World} (h : EtOk w) : 0 < w.heap.size := block_lt_of_cell h
theorem EtOk.below {w w' : World} {B : Nat} (h : EtOk w) (hb : Below B w w') (hB : w.heap.size ≤ B) : EtOk w' :=
 (hb.cell (p := ⟨0, 0, none⟩) (Nat.lt_of_lt_of_le h.lt hB)).trans h
theorem EtOk.alloc {w : World} (h : EtOk w) (o : Obj) : EtOk (w.alloc o) := (World.cell?_alloc_lt w o ⟨0, 0, none⟩ h.lt).trans h

def erCode : Er → Int
 | .ok => 0
 | .no n => n
 | .fa _ n => n
def erAt : Er → Int
 | .ok => -1
 | .no _ => -1
 | .fa p _ => p

theorem below_setCell {B : Nat} {a w w1 : World} (hb : Below B a w) (h1 : Below w.heap.size w w1) (hB : B ≤ w.heap.size) (t : Addr) (ht : B ≤ t.block) (v : Value) : Below B a (w1.setCell t v) :=
 (hb.trans (h1.mono hB)).setCell ht v

theorem code_any (v : Value) (er : Er) (B : Nat) (w : World) (hE : ErIs w B v er) (hG : EtOk w) :
    Calls Tryz.prog 22 #[v] w fun e w' => e = .returned (.int .i64 (erCode er)) ∧ Below w.heap.size w w' := by
 have hb0 : Below w.heap.size w (w.alloc (.cells #[.int .i64 0] 64)) := (Below.refl _ _).alloc lr _; have hN := Blk.new w 64 #[.int .i64 0]; have hc := hN.cell 0; rw [show (#[Value.int .i64 0] : Array Value)[0]? = some (.int .i64 0) from rfl] at hc; have hf := hN.frozen 0; have hG1 := hG.alloc (.cells #[.int .i64 0] 64)
 cases er with
 | ok =>
  obtain rfl : v = _ := hE
  go_enter Tryz.func22, Tryz.ntmps22
  go_wp2
  go_ret
  exact ⟨rfl, hb0⟩
 | no n =>
  obtain rfl : v = _ := hE; have HA := Hh (as_no_no (n : Int) ⟨w.heap.size, 0, none⟩ (.int .i64 0) _ hG1 hc hf); have hs := hN.lt; clear hG1 hc hf
  go_enter Tryz.func22, Tryz.ntmps22
  go_wp2_with fail
  refine HA.out.mono ?_; rintro e w' ⟨rfl, w1, hb1, rfl⟩; have hN1 := (hN.below hb1 hs).set_ 0 (.int .i64 (n : Int)); have hc1 := hN1.cell 0; rw [show ((#[Value.int .i64 0] : Array Value).setIfInBounds 0 (.int .i64 (n : Int)))[0]? = some (.int .i64 (n : Int)) from rfl] at hc1; have hbb := below_setCell hb0 hb1 (Nat.le_of_lt hs) ⟨w.heap.size, 0, none⟩ lr (.int .i64 (n : Int)); clear hN1 hN hb1 hb0 HA hG hs; generalize w1.setCell ⟨w.heap.size, 0, none⟩ (.int .i64 (n : Int)) = w2 at *; go_wp2
  go_ret
  exact ⟨rfl, hbb⟩
 | fa p n =>
  obtain ⟨g, rfl, hg, hF⟩ := hE; have HA := Hh (as_fa_no g p (n : Int) ⟨w.heap.size, 0, none⟩ (.int .i64 0) _ hG1 hc hf (hF.alloc _)); have hs := hN.lt; clear hG1 hc hf hF
  go_enter Tryz.func22, Tryz.ntmps22
  go_wp2_with fail
  refine HA.out.mono ?_; rintro e w' ⟨rfl, w1, hb1, rfl⟩; have hN1 := (hN.below hb1 hs).set_ 0 (.int .i64 (n : Int)); have hc1 := hN1.cell 0; rw [show ((#[Value.int .i64 0] : Array Value).setIfInBounds 0 (.int .i64 (n : Int)))[0]? = some (.int .i64 (n : Int)) from rfl] at hc1; have hbb := below_setCell hb0 hb1 (Nat.le_of_lt hs) ⟨w.heap.size, 0, none⟩ lr (.int .i64 (n : Int)); clear hN1 hN hb1 hb0 HA hG hs; generalize w1.setCell ⟨w.heap.size, 0, none⟩ (.int .i64 (n : Int)) = w2 at *; go_wp2
  go_ret
  exact ⟨rfl, hbb⟩

theorem at_any (v : Value) (er : Er) (B : Nat) (w : World) (hE : ErIs w B v er) (hG : EtOk w) :
    Calls Tryz.prog 23 #[v] w fun e w' => e = .returned (.int .i64 (erAt er)) ∧ Below w.heap.size w w' := by
 have hb0 : Below w.heap.size w (w.alloc (.cells #[.pointer none] 74)) := (Below.refl _ _).alloc lr _; have hN := Blk.new w 74 #[.pointer none]; have hc := hN.cell 0; rw [show (#[Value.pointer none] : Array Value)[0]? = some (.pointer none) from rfl] at hc; have hf := hN.frozen 0; have hG1 := hG.alloc (.cells #[.pointer none] 74)
 cases er with
 | ok =>
  obtain rfl : v = _ := hE
  go_enter Tryz.func23, Tryz.ntmps23
  go_wp2
  go_ret
  exact ⟨rfl, hb0⟩
 | no n =>
  obtain rfl : v = _ := hE; have HA := Hh (as_no_fa (n : Int) ⟨w.heap.size, 0, none⟩ (.pointer none) _ hG1 hc hf); have hs := hN.lt; clear hG1 hc hf
  go_enter Tryz.func23, Tryz.ntmps23
  go_wp2_with fail
  refine HA.out.mono ?_; rintro e w' ⟨rfl, hb1⟩; have hbb := hb0.trans (hb1.mono (Nat.le_of_lt hs)); go_wp2
  go_ret
  exact ⟨rfl, hbb⟩
 | fa p n =>
  obtain ⟨g, rfl, hg, hF⟩ := hE; have HA := Hh (as_fa_fa ⟨g, 0, none⟩ ⟨w.heap.size, 0, none⟩ (.pointer none) _ hG1 hc hf); have hs := hN.lt; have hgl := hF.lt; clear hG1 hc hf
  go_enter Tryz.func23, Tryz.ntmps23
  go_wp2_with fail
  refine HA.out.mono ?_; rintro e w' ⟨rfl, w1, hb1, rfl⟩; have hN1 := (hN.below hb1 hs).set_ 0 (.pointer (some ⟨g, 0, none⟩)); have hc1 := hN1.cell 0; rw [show ((#[Value.pointer none] : Array Value).setIfInBounds 0 (.pointer (some ⟨g, 0, none⟩)))[0]? = some (.pointer (some ⟨g, 0, none⟩)) from rfl] at hc1; have hbb := below_setCell hb0 hb1 (Nat.le_of_lt hs) ⟨w.heap.size, 0, none⟩ lr (.pointer (some ⟨g, 0, none⟩)); have hF1 := (hF.below hbb hgl).cell 0; rw [show (#[Value.int .i64 p, .iface 64 (.int .i64 (n : Int))] : Array Value)[0]? = some (.int .i64 p) from rfl] at hF1; clear hN1 hN hb1 hb0 HA hG hs hF; generalize w1.setCell ⟨w.heap.size, 0, none⟩ (.pointer (some ⟨g, 0, none⟩)) = w2 at *; go_wp2
  go_ret
  exact ⟨rfl, hbb⟩
end Go.Proofs.YtfkjkkjimdilcaaGreatDoor
