/- What the listed variables give a walk; a world that holds them; a head that is handed in. -/
import Derived.Test.YtfkjkkjimdilcaaGreatDoorCards
import Derived.Test.YtfkjkkjimdilcaaGreatDoorTie
import Derived.Test.YtfkjkkjimdilcaaGreatDoorQRow
import Derived.Test.YtfkjkkjimdilcaaGreatDoorQHeadM
import Derived.LaidLaws
import Derived.LaidSub
import Derived.LaidHandle
import Derived.Stop.Joined
import Derived.Deep.DeepHandedRow
import Derived.Lib.LaidTab
namespace Go.Proofs.YtfkjkkjimdilcaaGreatDoor
open Go Go.ChangeShapes Go.WideShapes Go.ChangeAt Go.RowKit Pr

theorem laidOut : laidOutB Tryz.prog = true := by kernel_rfl
theorem etName : Tryz.prog.globalNamed "errors.errorType" = some 0 := by kernel_rfl
theorem rtName : (Tryz.prog.cutTypes.find? (·.1 == "internal/reflectlite.rtype")).map (·.2) = some 154 := by kernel_rfl
theorem errRow : ((List.range Tryz.prog.types.size).filter fun t => Tryz.prog.rowNamed t [101, 114, 114, 111, 114]) = [31] := by kernel_rfl
def laid4 : List (String × DataW Unit) := [("math/bits.deBruijn32tab", Rows.laid_math_bits_deBruijn32tab), ("math/bits.deBruijn64tab", Rows.laid_math_bits_deBruijn64tab), ("internal/strconv.uint64pow10", Rows.laid_internal_strconv_uint64pow10), ("errors.errorType", Rows.laid_errors_errorType)]

/-- WHAT THE CONDITION GIVES A WALK: the type's one cell. -/
theorem et_of_laid {W : World} (h : laidMetH Tryz.prog laid4 W) : EtOk W := by
 have h' := (laidMetH_iff.1 h).2; obtain ⟨name, u, ty, e1, e2, e3, e4, e5⟩ := h' ("errors.errorType", Rows.laid_errors_errorType) (List.mem_filter.2 ⟨by simp [laid4], rfl⟩); have en : name = [101, 114, 114, 111, 114] := (Option.some.inj e1).symm; subst en; obtain rfl := Option.some.inj (rtName.symm.trans e2); have hm : ty ∈ (List.range Tryz.prog.types.size).filter fun t => Tryz.prog.rowNamed t [101, 114, 114, 111, 114] := List.mem_filter.2 ⟨List.mem_range.2 e3, e4⟩; rw [errRow] at hm; obtain rfl := List.mem_singleton.1 hm; have hh : typeHandle Tryz.prog 31 = .pointer (some ⟨5, 31, none⟩) := by kernel_rfl
 rw [hh] at e5
 show W.cell? _ = _
 simpa using World.var?_cell etName e5 0
/-- .. and the table of powers of ten. -/
theorem tab_of_laid {W : World} (h : laidMetH Tryz.prog laid4 W) : TabOk W := by
 have h' := (laidMetH_iff.1 (h.filter (fun x => x.1 == "internal/strconv.uint64pow10"))).1; have e : ((laid4.filter (fun x => x.1 == "internal/strconv.uint64pow10")).filter fun x => x.2.handleName?.isNone) = [("internal/strconv.uint64pow10", Lib.tabData .u64 Lib.pow10Tab)] := by kernel_rfl
 rw [e] at h'; exact Lib.tabIs_of_head tabName (by kernel_rfl) Tryz.underlying226 Tryz.underlying171 (by kernel_rfl) (by kernel_rfl) h'

def tabCells : DataW Unit → Array Value
 | .agg ps => (ps.map fun | .lit (.int k n) => Value.int k n | _ => undef).toArray
 | _ => #[]
/-- A world that meets the condition: the settled one, the variables' cells laid. -/
noncomputable def laidWorld (os : Os) : World :=
 let w0 := World.holding Tryz.prog os ⟨#[], #[], []⟩
 let put (h : Array Obj) (g : Nat) (cs : Array Value) : Array Obj := h.modify g fun
     | .cells _ t frozen => .cells cs t frozen
     | o => o
 { w0 with heap := put (put (put (put w0.heap 0 #[.iface 154 (.agg #[.pointer (some ⟨5, 31, none⟩)])]) 3 (tabCells Rows.laid_math_bits_deBruijn32tab)) 4 (tabCells Rows.laid_math_bits_deBruijn64tab)) 2 (tabCells Rows.laid_internal_strconv_uint64pow10) }
def laid3 : List (String × DataW Unit) := [("math/bits.deBruijn32tab", Rows.laid_math_bits_deBruijn32tab), ("math/bits.deBruijn64tab", Rows.laid_math_bits_deBruijn64tab), ("internal/strconv.uint64pow10", Rows.laid_internal_strconv_uint64pow10)]
theorem laid3_eq : (laid4.filter fun x => x.2.handleName?.isNone) = laid3 := by kernel_rfl
theorem laidWorld_data (os : Os) (args : Array Value) : (DataW.laidRun Tryz.prog ((laidWorld os).forCall (fun _ _ => 0) ⟨#[], args, []⟩).memory 8 (laid3.map (·.1))).map (·.1) = some laid3 := by kernel_rfl
theorem laidWorld_rows (os : Os) (args : Array Value) : (DataW.laidRun Tryz.prog ((laidWorld os).forCall (fun _ _ => 0) ⟨#[], args, []⟩).memory 8 (laid3.map (·.1))).map (fun x => decide x.2.Nodup && laidRowsB Tryz.prog ((laidWorld os).forCall (fun _ _ => 0) ⟨#[], args, []⟩).memory x.2) = some true := by kernel_rfl
theorem laidWorld_et (os : Os) (args : Array Value) : (laid4.filter fun x => x.2.handleName?.isSome).all (handleAtB Tryz.prog ((laidWorld os).forCall (fun _ _ => 0) ⟨#[], args, []⟩).memory) = true := by kernel_rfl
theorem laidWorld_met1 (os : Os) (args : Array Value) : laidMet Tryz.prog laid3 ((laidWorld os).forCall (fun _ _ => 0) ⟨#[], args, []⟩).memory :=
 laidMet_of_run' 8 (laidWorld_data os args) (laidWorld_rows os args)
theorem laidWorld_met (os : Os) (args : Array Value) : laidMetH Tryz.prog laid4 ((laidWorld os).forCall (fun _ _ => 0) ⟨#[], args, []⟩).memory :=
 laidMetH_of_parts (laid3_eq ▸ laidWorld_met1 os args) (laidWorld_et os args)

theorem trod_struct6 {H : Type} {enc : TypeId × Value → H} {P : Program} {w : World} {base : Nat} {spare : Nat → Bool} {held : Bool} {t : TypeId} {f0 f1 f2 f3 f4 f5 : Field} {fuel : Nat} {cs : List Value} {x : DataW H × List MemPlace} (ht : P.underlying t = some (.struct #[f0, f1, f2, f3, f4, f5])) (h : DataW.trod enc P w base spare held fuel t cs = some x) :
    ∃ y0 y1 y2 y3 y4 y5 n, x = (.agg [y0.1, y1.1, y2.1, y3.1, y4.1, y5.1], y0.2 ++ (y1.2 ++ (y2.2 ++ (y3.2 ++ (y4.2 ++ y5.2))))) ∧ cs.length = P.cellsOf t ∧ DataW.trod enc P w base spare held n f0.type ((cs.drop f0.offset).take (P.cellsOf f0.type)) = some y0 ∧
     DataW.trod enc P w base spare held n f1.type ((cs.drop f1.offset).take (P.cellsOf f1.type)) = some y1 ∧ DataW.trod enc P w base spare held n f2.type ((cs.drop f2.offset).take (P.cellsOf f2.type)) = some y2 ∧
     DataW.trod enc P w base spare held n f3.type ((cs.drop f3.offset).take (P.cellsOf f3.type)) = some y3 ∧ DataW.trod enc P w base spare held n f4.type ((cs.drop f4.offset).take (P.cellsOf f4.type)) = some y4 ∧ DataW.trod enc P w base spare held n f5.type ((cs.drop f5.offset).take (P.cellsOf f5.type)) = some y5 := by
 obtain ⟨xs, n, _, rfl, hl, hlen, hf⟩ := DataW.trod_struct ht h
 match xs, hlen with
 | [y0, y1, y2, y3, y4, y5], _ => exact ⟨y0, y1, y2, y3, y4, y5, n, by simp, hl, by simpa using hf 0 f0 rfl, by simpa using hf 1 f1 rfl, by simpa using hf 2 f2 rfl, by simpa using hf 3 f3 rfl, by simpa using hf 4 f4 rfl, by simpa using hf 5 f5 rfl⟩
theorem cells6 {cs : Array Value} (h : cs.size = 6) : ∃ a b c d e f, cs = #[a, b, c, d, e, f] := by
 obtain ⟨l⟩ := cs
 match l, h with
 | [a, b, c, d, e, f], _ => exact ⟨a, b, c, d, e, f, rfl⟩
def hdData {H : Type} (h : Hd) : DataW H := .agg [.lit (.int .u8 (h.ver.toNat : Int)), .lit (.string h.usage.data.toList), .lit (.int .u8 (h.alg.toNat : Int)), .lit (.int .u8 (h.mode.toNat : Int)), .lit (.string h.serial.data.toList), .lit (.int .u8 (h.exp.toNat : Int))]
theorem u8_of {n : Int} (h : (Lit.int .u8 n).wf = true) : ∃ c : UInt8, n = (c.toNat : Int) := by
 obtain ⟨c, rfl, hc⟩ := wf_u8 h; exact ⟨UInt8.ofNat c, by rw [UInt8.toNat_ofNat_of_lt' hc]⟩
theorem open_headP {H : Type} {enc : TypeId × Value → H} {P : Program} {w : World} {base : Nat} {spare : Nat → Bool} {held : Bool} {r : Reach} {b0 : Nat} {t tb ts : TypeId} {f0 f1 f2 f3 f4 f5 : Field} {v : Value} {d : DataW H} {ps : List MemPlace} (hu : P.underlying t = some (.struct #[f0, f1, f2, f3, f4, f5]))
    (hb : P.underlying tb = some (.int .u8)) (hs : P.underlying ts = some .string) (hct : P.cellsOf t = 6) (c5 : P.cellsOf tb = 1) (c9 : P.cellsOf ts = 1)
    (t0 : f0.type = tb ∧ f0.offset = 0) (t1 : f1.type = ts ∧ f1.offset = 1) (t2 : f2.type = tb ∧ f2.offset = 2) (t3 : f3.type = tb ∧ f3.offset = 3) (t4 : f4.type = ts ∧ f4.offset = 4) (t5 : f5.type = tb ∧ f5.offset = 5)
    (hval : Value.okWide P w r b0 t v) (hd : DataW.Trod enc P w base spare held t v d ps) : ∃ h : Hd, v = .agg h.cells ∧ d = hdData h ∧ ps = [] := by
 obtain ⟨cs, rfl, hsz⟩ := okWide_struct hu hval; obtain ⟨a, b, c, e, f, g, rfl⟩ := cells6 (hsz.trans hct); obtain ⟨fuel, hf⟩ := hd; obtain ⟨y0, y1, y2, y3, y4, y5, n, hx, _, h0, h1, h2, h3, h4, h5⟩ := trod_struct6 hu hf; rw [t0.1, t0.2] at h0; rw [t1.1, t1.2] at h1; rw [t2.1, t2.2] at h2; rw [t3.1, t3.2] at h3; rw [t4.1, t4.2] at h4; rw [t5.1, t5.2] at h5; obtain ⟨n0, e0, rfl, w0⟩ := DataW.trod_int hb h0; obtain ⟨s1, e1, rfl, _⟩ := DataW.trod_string hs h1; obtain ⟨n2, e2, rfl, w2⟩ := DataW.trod_int hb h2; obtain ⟨n3, e3, rfl, w3⟩ := DataW.trod_int hb h3; obtain ⟨s4, e4, rfl, _⟩ := DataW.trod_string hs h4; obtain ⟨n5, e5, rfl, w5⟩ := DataW.trod_int hb h5; simp only [c5, c9, Value.cells] at e0 e1 e2 e3 e4 e5
 obtain rfl : a = .int .u8 n0 := by simpa using e0
 obtain rfl : b = .string s1 := by simpa using e1
 obtain rfl : c = .int .u8 n2 := by simpa using e2
 obtain rfl : e = .int .u8 n3 := by simpa using e3
 obtain rfl : f = .string s4 := by simpa using e4
 obtain rfl : g = .int .u8 n5 := by simpa using e5
 obtain ⟨m0, rfl⟩ := u8_of w0; obtain ⟨m2, rfl⟩ := u8_of w2; obtain ⟨m3, rfl⟩ := u8_of w3; obtain ⟨m5, rfl⟩ := u8_of w5; simp only [Prod.mk.injEq] at hx
 exact ⟨⟨m0, s1, m2, m3, s4, m5⟩, rfl, hx.1, hx.2⟩
theorem cells_head : Tryz.prog.cellsOf 24 = 6 := by kernel_rfl
theorem cells_string : Tryz.prog.cellsOf 9 = 1 := by kernel_rfl
theorem head_le {H : Type} {ts : List TypeId} {ds : List (DataW H)} (h : (DataW.weightsEach Tryz.prog ts ds).all (· ≤ reachBytes) = true) (j : Nat) {hd : Hd} (ht : ts[j]? = some 24) (hd' : ds[j]? = some (hdData hd)) : hd.usage.size ≤ 140737488351232 ∧ hd.serial.size ≤ 140737488351232 := by
 have h1 := List.all_eq_true.1 h _ (DataW.weights_mem_each ht hd' hd.usage.data.toList.length (by simp [hdData, DataW.weights, Tryz.underlying24, DataW.weightsEach])); have h2 := List.all_eq_true.1 h _ (DataW.weights_mem_each ht hd' hd.serial.data.toList.length (by simp [hdData, DataW.weights, Tryz.underlying24, DataW.weightsEach])); have e1 : hd.usage.data.toList.length = hd.usage.size := rfl; have e2 : hd.serial.data.toList.length = hd.serial.size := rfl; rw [e1] at h1; rw [e2] at h2; have hr : reachBytes ≤ 140737488351232 := by decide
 have h1' := of_decide_eq_true h1; have h2' := of_decide_eq_true h2; exact ⟨by omega, by omega⟩
end Go.Proofs.YtfkjkkjimdilcaaGreatDoor
