/- errors.As, by its contracts: an Errno where a *Fault is looked for; a *Fault where an Errno is. -/
import Derived.Test.YtnkgglmfoimbhaaGreatDoorAsB
namespace Go.Proofs.YtnkgglmfoimbhaaGreatDoor
open Go Go.RowKit Go.Extern.Stop Go.Stop Go.Extern

/-! which interfaces the two errors meet -/
theorem asrt_no_As (n : Int) (W : World) : (Instr.typeAssert (.iface 75 (.int .i64 n)) 24 152 true).run Tryz.prog W = .ok (.tuple #[.nilIface, .bool false]) W := run_typeAssert_lacksB Tryz.underlying152 (by kernel_rfl) (by kernel_rfl) _ _ W
theorem asrt_no_U (n : Int) (W : World) : (Instr.typeAssert (.iface 75 (.int .i64 n)) 24 155 true).run Tryz.prog W = .ok (.tuple #[.nilIface, .bool false]) W := run_typeAssert_lacksB Tryz.underlying155 (by kernel_rfl) (by kernel_rfl) _ _ W
theorem asrt_no_Us (n : Int) (W : World) : (Instr.typeAssert (.iface 75 (.int .i64 n)) 24 157 true).run Tryz.prog W = .ok (.tuple #[.nilIface, .bool false]) W := run_typeAssert_lacksB Tryz.underlying157 (by kernel_rfl) (by kernel_rfl) _ _ W
theorem asrt_fa_As (p : Addr) (W : World) : (Instr.typeAssert (.iface 74 (.pointer (some p))) 24 152 true).run Tryz.prog W = .ok (.tuple #[.nilIface, .bool false]) W := run_typeAssert_lacksB Tryz.underlying152 (by kernel_rfl) (by kernel_rfl) _ _ W
theorem asrt_fa_U (p : Addr) (W : World) : (Instr.typeAssert (.iface 74 (.pointer (some p))) 24 155 true).run Tryz.prog W = .ok (.tuple #[.iface 74 (.pointer (some p)), .bool true]) W := run_typeAssert_hasB Tryz.underlying155 (by kernel_rfl) _ _ W
theorem methodUnwrap (p : Value) (w : World) : (Go.method 356 74 p "Unwrap").run Tryz.prog w = .ok (177, p) w := by kernel_rfl

/-- what a Fault is about -/
theorem unwrap_any (g : Nat) (p : Int) (v : Value) (_hv : v.oneCell' = true) (w : World) (h : Blk w g 77 #[.int .i64 p, v]) :
    Calls Tryz.prog 177 #[.pointer (some ⟨g, 0, none⟩)] w fun e w' => e = .returned v ∧ w' = w := by
  have hc := h.cell 1
  rw [show (#[Value.int .i64 p, v] : Array Value)[1]? = some v from rfl] at hc
  go_enter Tryz.func177, Tryz.ntmps177
  go_wp2
  go_ret
  exact ⟨rfl, rfl⟩

set_option maxHeartbeats 8000000 in
set_option maxRecDepth 100000 in
theorem as_no_fa (n : Int) (t : Addr) (old : Value) (w : World) (hg : w.cell? ⟨0, 0, none⟩ = some (.iface 147 (.agg #[.pointer (some ⟨5, 24, none⟩)]))) (ht0 : w.cell? t = some old) (_hf0 : w.frozen? t = false) :
    Calls Tryz.prog 36 #[.iface 75 (.int .i64 n), .iface 83 (.pointer (some t))] w fun ev w' => ev = .returned (.bool false) ∧ Below w.heap.size w w' := by
  have x52 := @run_callFunc_extern Tryz.prog 69 _ (fun args => ReflectliteValue.unpack (args.getD 0 (.tuple #[]))) Tryz.func69 (by kernel_rfl) (by kernel_rfl) (by kernel_rfl) (by kernel_rfl)
  have x53 := @run_callFunc_extern Tryz.prog 70 _ (ReflectliteValue.methodAny (ReflectliteValue.valueError "reflectlite.Value.Type" 0) (fun t _ _ _ => ReflectliteType.toType t)) Tryz.func70 (by kernel_rfl) (by kernel_rfl) (by kernel_rfl) (by kernel_rfl)
  have x54 := @run_callFunc_extern Tryz.prog 71 _ (ReflectliteValue.method (ReflectliteValue.valueError "reflectlite.Value.IsNil" 0) ReflectliteValue.isNil) Tryz.func71 (by kernel_rfl) (by kernel_rfl) (by kernel_rfl) (by kernel_rfl)
  have xK := @run_callFunc_extern Tryz.prog 170 _ (ReflectliteType.abiMethod fun t => do pure (.int .u8 (← Rtype.kind t))) Tryz.func170 (by kernel_rfl) (by kernel_rfl) (by kernel_rfl) (by kernel_rfl)
  have xE := @run_callFunc_extern Tryz.prog 185 _ (ReflectliteType.method ReflectliteType.elem) Tryz.func185 (by kernel_rfl) (by kernel_rfl) (by kernel_rfl) (by kernel_rfl)
  have xI := @run_callFunc_extern Tryz.prog 186 _ (ReflectliteType.relation "Implements" ReflectliteType.implements_) Tryz.func186 (by kernel_rfl) (by kernel_rfl) (by kernel_rfl) (by kernel_rfl)
  have xT := @run_callFunc_extern Tryz.prog 92 _ ReflectliteType.typeOf Tryz.func92 (by kernel_rfl) (by kernel_rfl) (by kernel_rfl) (by kernel_rfl)
  have xA := @run_callFunc_extern Tryz.prog 183 _ (ReflectliteType.relation "AssignableTo" ReflectliteType.assignableTo) Tryz.func183 (by kernel_rfl) (by kernel_rfl) (by kernel_rfl) (by kernel_rfl)
  have x83 := @run_callFunc_extern Tryz.prog 93 _ (ReflectliteValue.method (ReflectliteValue.valueError "reflectlite.Value.Elem" 0) ReflectliteValue.elem) Tryz.func93 (by kernel_rfl) (by kernel_rfl) (by kernel_rfl) (by kernel_rfl)
  have x84 := @run_callFunc_extern Tryz.prog 94 _ ReflectliteValue.set Tryz.func94 (by kernel_rfl) (by kernel_rfl) (by kernel_rfl) (by kernel_rfl)
  have mK := methodKind
  have mE := methodElem
  have mI := methodImplements
  have mA := methodAssignableTo
  have q1 := valueOf_fa
  have q2 := type_fa
  have q3 := kind_fa
  have q4 := kindE_fa
  have q5 := elem_fa
  have q6 := implements_fa
  have hlt : 0 < w.heap.size := block_lt_of_cell hg
  have htl : t.block < w.heap.size := block_lt_of_cell ht0
  have n8 := isNil_fa ⟨w.heap.size, 0, none⟩ t ((w.alloc (.cells #[.pointer (some t)] 83)).alloc (.cells #[.pointer (some ⟨5, 83, none⟩), .pointer (some ⟨w.heap.size, 0, none⟩), .int .u64 150] 120)) (by simp)
  have hg2 : ((w.alloc (.cells #[.pointer (some t)] 83)).alloc (.cells #[.pointer (some ⟨5, 83, none⟩), .pointer (some ⟨w.heap.size, 0, none⟩), .int .u64 150] 120)).cell? ⟨0, 0, none⟩ = some (.iface 147 (.agg #[.pointer (some ⟨5, 24, none⟩)])) := by
    rw [World.cell?_alloc_lt _ _ ⟨0, 0, none⟩ (by simp), World.cell?_alloc_lt _ _ ⟨0, 0, none⟩ hlt]; exact hg
  have el := elemV_fa ⟨w.heap.size, 0, none⟩ t (((w.alloc (.cells #[.pointer (some t)] 83)).alloc (.cells #[.pointer (some ⟨5, 83, none⟩), .pointer (some ⟨w.heap.size, 0, none⟩), .int .u64 150] 120)).alloc (.cells #[.pointer (some ⟨5, 83, none⟩), .pointer (some ⟨w.heap.size, 0, none⟩), .int .u64 150] 120)) (by rw [World.cell?_alloc_lt _ _ ⟨w.heap.size, 0, none⟩ (by simp; omega)]; simp)
  have a1 := assign_no_fa
  have a2 := typeOf_no
  have r1 := asrt_no_As
  have r2 := asrt_no_U
  have r3 := asrt_no_Us
  go_enter Tryz.func36, Tryz.ntmps36
  go_wp2
  refine wp_loop_rounds 1 ?_
  rw [rounds_succ]
  go_wp2
  go_ret
  exact ⟨rfl, ((((Below.refl _ _).alloc (Nat.le_refl _) _).alloc (by simp) _).alloc (by simp; omega) _)⟩

set_option maxHeartbeats 8000000 in
set_option maxRecDepth 100000 in
theorem as_fa_no (g : Nat) (p n : Int) (t : Addr) (old : Value) (w : World) (hg : w.cell? ⟨0, 0, none⟩ = some (.iface 147 (.agg #[.pointer (some ⟨5, 24, none⟩)]))) (ht0 : w.cell? t = some old) (hf0 : w.frozen? t = false) (hF : Blk w g 77 #[.int .i64 p, .iface 75 (.int .i64 n)]) :
    Calls Tryz.prog 36 #[.iface 74 (.pointer (some ⟨g, 0, none⟩)), .iface 82 (.pointer (some t))] w fun ev w' => ev = .returned (.bool true) ∧ ∃ w1, Below w.heap.size w w1 ∧ w' = w1.setCell t (.int .i64 n) := by
  have x52 := @run_callFunc_extern Tryz.prog 69 _ (fun args => ReflectliteValue.unpack (args.getD 0 (.tuple #[]))) Tryz.func69 (by kernel_rfl) (by kernel_rfl) (by kernel_rfl) (by kernel_rfl)
  have x53 := @run_callFunc_extern Tryz.prog 70 _ (ReflectliteValue.methodAny (ReflectliteValue.valueError "reflectlite.Value.Type" 0) (fun t _ _ _ => ReflectliteType.toType t)) Tryz.func70 (by kernel_rfl) (by kernel_rfl) (by kernel_rfl) (by kernel_rfl)
  have x54 := @run_callFunc_extern Tryz.prog 71 _ (ReflectliteValue.method (ReflectliteValue.valueError "reflectlite.Value.IsNil" 0) ReflectliteValue.isNil) Tryz.func71 (by kernel_rfl) (by kernel_rfl) (by kernel_rfl) (by kernel_rfl)
  have xK := @run_callFunc_extern Tryz.prog 170 _ (ReflectliteType.abiMethod fun t => do pure (.int .u8 (← Rtype.kind t))) Tryz.func170 (by kernel_rfl) (by kernel_rfl) (by kernel_rfl) (by kernel_rfl)
  have xE := @run_callFunc_extern Tryz.prog 185 _ (ReflectliteType.method ReflectliteType.elem) Tryz.func185 (by kernel_rfl) (by kernel_rfl) (by kernel_rfl) (by kernel_rfl)
  have xI := @run_callFunc_extern Tryz.prog 186 _ (ReflectliteType.relation "Implements" ReflectliteType.implements_) Tryz.func186 (by kernel_rfl) (by kernel_rfl) (by kernel_rfl) (by kernel_rfl)
  have xT := @run_callFunc_extern Tryz.prog 92 _ ReflectliteType.typeOf Tryz.func92 (by kernel_rfl) (by kernel_rfl) (by kernel_rfl) (by kernel_rfl)
  have xA := @run_callFunc_extern Tryz.prog 183 _ (ReflectliteType.relation "AssignableTo" ReflectliteType.assignableTo) Tryz.func183 (by kernel_rfl) (by kernel_rfl) (by kernel_rfl) (by kernel_rfl)
  have x83 := @run_callFunc_extern Tryz.prog 93 _ (ReflectliteValue.method (ReflectliteValue.valueError "reflectlite.Value.Elem" 0) ReflectliteValue.elem) Tryz.func93 (by kernel_rfl) (by kernel_rfl) (by kernel_rfl) (by kernel_rfl)
  have x84 := @run_callFunc_extern Tryz.prog 94 _ ReflectliteValue.set Tryz.func94 (by kernel_rfl) (by kernel_rfl) (by kernel_rfl) (by kernel_rfl)
  have mK := methodKind
  have mE := methodElem
  have mI := methodImplements
  have mA := methodAssignableTo
  have q1 := valueOf_no
  have q2 := type_no
  have q3 := kind_no
  have q4 := kindE_no
  have q5 := elem_no
  have q6 := implements_no
  have hlt : 0 < w.heap.size := block_lt_of_cell hg
  have htl : t.block < w.heap.size := block_lt_of_cell ht0
  have n8 := isNil_no ⟨w.heap.size, 0, none⟩ t ((w.alloc (.cells #[.pointer (some t)] 82)).alloc (.cells #[.pointer (some ⟨5, 82, none⟩), .pointer (some ⟨w.heap.size, 0, none⟩), .int .u64 150] 120)) (by simp)
  have hg2 : ((w.alloc (.cells #[.pointer (some t)] 82)).alloc (.cells #[.pointer (some ⟨5, 82, none⟩), .pointer (some ⟨w.heap.size, 0, none⟩), .int .u64 150] 120)).cell? ⟨0, 0, none⟩ = some (.iface 147 (.agg #[.pointer (some ⟨5, 24, none⟩)])) := by
    rw [World.cell?_alloc_lt _ _ ⟨0, 0, none⟩ (by simp), World.cell?_alloc_lt _ _ ⟨0, 0, none⟩ hlt]; exact hg
  have el := elemV_no ⟨w.heap.size, 0, none⟩ t (((w.alloc (.cells #[.pointer (some t)] 82)).alloc (.cells #[.pointer (some ⟨5, 82, none⟩), .pointer (some ⟨w.heap.size, 0, none⟩), .int .u64 150] 120)).alloc (.cells #[.pointer (some ⟨5, 82, none⟩), .pointer (some ⟨w.heap.size, 0, none⟩), .int .u64 150] 120)) (by rw [World.cell?_alloc_lt _ _ ⟨w.heap.size, 0, none⟩ (by simp; omega)]; simp)
  have a1 := assign_fa_no
  have a2 := typeOf_fa
  have a4 := assign_no
  have a5 := typeOf_no
  have a6 := valueOfE_no
  have r1 := asrt_fa_As
  have r2 := asrt_fa_U
  have mU := methodUnwrap
  have cF : (((w.alloc (.cells #[.pointer (some t)] 82)).alloc (.cells #[.pointer (some ⟨5, 82, none⟩), .pointer (some ⟨w.heap.size, 0, none⟩), .int .u64 150] 120)).alloc (.cells #[.pointer (some ⟨5, 82, none⟩), .pointer (some ⟨w.heap.size, 0, none⟩), .int .u64 150] 120)).cell? ⟨g, 1, none⟩ = some (.iface 75 (.int .i64 n)) := (((hF.alloc _).alloc _).alloc _).cell 1
  have st := set_no t ⟨w.heap.size + 1 + 1 + 1, 0, none⟩ n old ((((w.alloc (.cells #[.pointer (some t)] 82)).alloc (.cells #[.pointer (some ⟨5, 82, none⟩), .pointer (some ⟨w.heap.size, 0, none⟩), .int .u64 150] 120)).alloc (.cells #[.pointer (some ⟨5, 82, none⟩), .pointer (some ⟨w.heap.size, 0, none⟩), .int .u64 150] 120)).alloc (.cells #[.int .i64 n] 75))
    (by rw [World.cell?_alloc_at _ _ _ _ (by simp)]; rfl)
    (by rw [World.cell?_alloc_lt _ _ t (by simp; omega), World.cell?_alloc_lt _ _ t (by simp; omega), World.cell?_alloc_lt _ _ t (by simp; omega), World.cell?_alloc_lt _ _ t htl]; exact ht0)
    (by rw [World.frozen?_alloc_old _ _ t (by simp; omega), World.frozen?_alloc_old _ _ t (by simp; omega), World.frozen?_alloc_old _ _ t (by simp; omega), World.frozen?_alloc_old _ _ t (Nat.ne_of_lt htl)]; exact hf0)
  go_enter Tryz.func36, Tryz.ntmps36
  go_wp2
  refine wp_loop_rounds 2 ?_
  rw [rounds_succ]
  go_wp2
  rw [rounds_succ]
  go_wp2
  go_ret
  exact ⟨rfl, _, (((((Below.refl _ _).alloc (Nat.le_refl _) _).alloc (by simp) _).alloc (by simp; omega) _).alloc (by simp; omega) _), rfl⟩
end Go.Proofs.YtnkgglmfoimbhaaGreatDoor
