/- What the listed variables give a walk; a world that holds them. -/
import Derived.Test.YthodpjcdmdbnoaaGreatDoorCards
import Derived.Test.YthodpjcdmdbnoaaGreatDoorTie
import Derived.Test.YthodpjcdmdbnoaaGreatDoorNRow
import Derived.Test.YthodpjcdmdbnoaaGreatDoorNAs
import Derived.LaidLaws
import Derived.LaidSub
import Derived.LaidHandle
import Derived.Stop.Joined
import Derived.Deep.DeepHandedRow
import Derived.Lib.LaidTab
namespace Go.Proofs.YthodpjcdmdbnoaaGreatDoor
open Go Go.ChangeShapes Go.WideShapes Go.ChangeAt Go.RowKit Pr

theorem laidOut : laidOutB Tryz.prog = true := by kernel_rfl
theorem etName : Tryz.prog.globalNamed "errors.errorType" = some 0 := by kernel_rfl
theorem rtName : (Tryz.prog.cutTypes.find? (·.1 == "internal/reflectlite.rtype")).map (·.2) = some 149 := by kernel_rfl
theorem errRow : ((List.range Tryz.prog.types.size).filter fun t => Tryz.prog.rowNamed t [101, 114, 114, 111, 114]) = [28] := by kernel_rfl
def laid4 : List (String × DataW Unit) := [("math/bits.deBruijn32tab", Rows.laid_math_bits_deBruijn32tab), ("math/bits.deBruijn64tab", Rows.laid_math_bits_deBruijn64tab), ("internal/strconv.uint64pow10", Rows.laid_internal_strconv_uint64pow10), ("errors.errorType", Rows.laid_errors_errorType)]

/-- WHAT THE CONDITION GIVES A WALK: the type's one cell. -/
theorem et_of_laid {W : World} (h : laidMetH Tryz.prog laid4 W) : EtOk W := by
 have h' := (laidMetH_iff.1 h).2
 obtain ⟨name, u, ty, e1, e2, e3, e4, e5⟩ := h' ("errors.errorType", Rows.laid_errors_errorType) (List.mem_filter.2 ⟨by simp [laid4], rfl⟩)
 have en : name = [101, 114, 114, 111, 114] := (Option.some.inj e1).symm
 subst en
 obtain rfl := Option.some.inj (rtName.symm.trans e2)
 have hm : ty ∈ (List.range Tryz.prog.types.size).filter fun t => Tryz.prog.rowNamed t [101, 114, 114, 111, 114] := List.mem_filter.2 ⟨List.mem_range.2 e3, e4⟩
 rw [errRow] at hm
 obtain rfl := List.mem_singleton.1 hm
 have hh : typeHandle Tryz.prog 28 = .pointer (some ⟨5, 28, none⟩) := by kernel_rfl
 rw [hh] at e5
 show W.cell? _ = _
 simpa using World.var?_cell etName e5 0
def tabCells : DataW Unit → Array Value
 | .agg ps => (ps.map fun | .lit (.int k n) => Value.int k n | _ => undef).toArray
 | _ => #[]
/-- A world that meets the condition: the settled one, the variables' cells laid. -/
noncomputable def laidWorld (os : Os) : World :=
 let w0 := World.holding Tryz.prog os ⟨#[], #[], []⟩
 let put (h : Array Obj) (g : Nat) (cs : Array Value) : Array Obj := h.modify g fun
     | .cells _ t frozen => .cells cs t frozen
     | o => o
 { w0 with heap := put (put (put (put w0.heap 0 #[.iface 149 (.agg #[.pointer (some ⟨5, 28, none⟩)])]) 3 (tabCells Rows.laid_math_bits_deBruijn32tab)) 4 (tabCells Rows.laid_math_bits_deBruijn64tab)) 2 (tabCells Rows.laid_internal_strconv_uint64pow10) }
def laid3 : List (String × DataW Unit) := [("math/bits.deBruijn32tab", Rows.laid_math_bits_deBruijn32tab), ("math/bits.deBruijn64tab", Rows.laid_math_bits_deBruijn64tab), ("internal/strconv.uint64pow10", Rows.laid_internal_strconv_uint64pow10)]
theorem laid3_eq : (laid4.filter fun x => x.2.handleName?.isNone) = laid3 := by kernel_rfl
theorem laidWorld_data (os : Os) (args : Array Value) : (DataW.laidRun Tryz.prog ((laidWorld os).forCall (fun _ _ => 0) ⟨#[], args, []⟩).memory 8 (laid3.map (·.1))).map (·.1) = some laid3 := by kernel_rfl
theorem laidWorld_rows (os : Os) (args : Array Value) : (DataW.laidRun Tryz.prog ((laidWorld os).forCall (fun _ _ => 0) ⟨#[], args, []⟩).memory 8 (laid3.map (·.1))).map (fun x => decide x.2.Nodup && laidRowsB Tryz.prog ((laidWorld os).forCall (fun _ _ => 0) ⟨#[], args, []⟩).memory x.2) = some true := by kernel_rfl
theorem laidWorld_et (os : Os) (args : Array Value) : (laid4.filter fun x => x.2.handleName?.isSome).all (handleAtB Tryz.prog ((laidWorld os).forCall (fun _ _ => 0) ⟨#[], args, []⟩).memory) = true := by kernel_rfl
theorem laidWorld_met1 (os : Os) (args : Array Value) : laidMet Tryz.prog laid3 ((laidWorld os).forCall (fun _ _ => 0) ⟨#[], args, []⟩).memory :=
 laidMet_of_run' 8 (laidWorld_data os args) (laidWorld_rows os args)
theorem laidWorld_met (os : Os) (args : Array Value) : laidMetH Tryz.prog laid4 ((laidWorld os).forCall (fun _ _ => 0) ⟨#[], args, []⟩).memory :=
 laidMetH_of_parts (laid3_eq ▸ laidWorld_met1 os args) (laidWorld_et os args)

end Go.Proofs.YthodpjcdmdbnoaaGreatDoor
