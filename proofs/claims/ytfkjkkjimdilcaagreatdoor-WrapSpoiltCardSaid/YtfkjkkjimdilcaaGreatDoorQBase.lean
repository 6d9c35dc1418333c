/- Runs of single operations, and small closers. -/
import Derived.Test.YtfkjkkjimdilcaaGreatDoorProg
import Derived.Test.YtfkjkkjimdilcaaGreatDoorQPureAll
import Derived.WalkKit
import Derived.WalkLawsBesides
import Derived.Lib.Hide
import Derived.Deep.LoopGhost
import Derived.Deep.QuietTactic
import Derived.BigQuiet
import Derived.WalkSpells
import Derived.Laws.CopyOwn
namespace Go.Proofs.YtfkjkkjimdilcaaGreatDoor
open Go Go.RowKit Pr
theorem Hh {p : Prop} (h : p) : RowKit.Hid p := h
theorem lr {n : Nat} : n ≤ n := Nat.le_refl n

theorem index_str {P : Program} (t : TypeId) (ht : P.underlying t = some .string) (s : ByteArray) (k : Nat) (h : k < s.size) (i : Int) (hi : i = k) (a : Nat) (ha : (s[k]).toNat = a) (W : World) (kd : IntKind := .i64) :
    (Instr.index t (.string s) (.int kd i)).run P W = .ok (.int .u8 (a : Int)) W := by
 subst hi; subst ha; rw [run_index_string W t s kd (k : Int) ht]
 simp [h]

/-- An element of an array that is a value. -/
theorem index_agg {P : Program} (t e : TypeId) (n : Nat) (cs : Array Value) (ht : P.underlying t = some (.array n e)) (hsz : (P.info? e).map (·.size) = some 1)
    (hag : (match P.underlying e with | some (.struct _) | some (.array _ _) => true | _ => false) = false) (hu : (P.underlying e).isSome)
    (k : Nat) (h : k < n) (kd : IntKind) (i : Int) (hi : i = k) (v : Value) (hv : cs[k]? = some v) (W : World) :
    (Instr.index t (.agg cs) (.int kd i)).run P W = .ok v W := by
 subst hi; obtain ⟨i0, hi0⟩ : ∃ i0, P.info? e = some i0 := by cases hq : P.info? e with | none => simp [hq] at hsz | some i0 => exact ⟨i0, rfl⟩
 have hs : i0.size = 1 := by simpa [hi0] using hsz
 obtain ⟨d, hd⟩ : ∃ d, P.underlying e = some d := Option.isSome_iff_exists.1 hu
 have hagg : (isAgg e).run P W = .ok false W := by
  unfold isAgg
  rw [Sem.run_bind, run_underlying hd W]; rw [hd] at hag
  cases d <;> simp_all
 simp [Instr.index, asIntOf, run_underlying ht, h, part, sizeOf, typeInfo, hi0, hs, hagg, hv, Sem.run_bind]

theorem or_step (P x n : Nat) (hP : P < 9223372036854775808) (hx : x < 18446744073709551616) :
    bits .or .u64 (IntKind.u64.wrap ((P : Int) * 2)) (bits .and .u64 ((x : Int) / 2 ^ n) 1) = ((2 * P + x / 2 ^ n % 2 : Nat) : Int) := by
 have hc : ((x : Int) / 2 ^ n) = ((x / 2 ^ n : Nat) : Int) := by simp
 have hX : x / 2 ^ n < 18446744073709551616 := Nat.lt_of_le_of_lt (Nat.div_le_self _ _) hx; rw [hc]; generalize x / 2 ^ n = X at *; rw [show IntKind.u64.wrap ((P : Int) * 2) = ((2 ^ 1 * P : Nat) : Int) by simp [IntKind.wrap, IntKind.bits, IntKind.signed]; omega]; rw [show (1 : Int) = ((1 : Nat) : Int) from rfl, u64_and_nat _ _ hX (by omega), Nat.and_one_is_mod, u64_or_nat _ _ (by omega) (by omega)]; rw [← Nat.two_pow_add_eq_or_of_lt (i := 1) (b := X % 2) (by omega) P, Nat.pow_one]

theorem wrap_u64_nat (n : Nat) (h : n < 18446744073709551616) : IntKind.u64.wrap (n : Int) = n := by
 simp [IntKind.wrap, IntKind.bits, IntKind.signed]; omega

theorem bit_and (x n : Nat) (hx : x < 18446744073709551616) : bits .and .u64 ((x : Int) / 2 ^ n) 1 = ((x / 2 ^ n % 2 : Nat) : Int) := by
 have hc : ((x : Int) / 2 ^ n) = ((x / 2 ^ n : Nat) : Int) := by simp
 have hX : x / 2 ^ n < 18446744073709551616 := Nat.lt_of_le_of_lt (Nat.div_le_self _ _) hx; rw [hc, show (1 : Int) = ((1 : Nat) : Int) from rfl, u64_and_nat _ _ hX (by omega), Nat.and_one_is_mod]

theorem unp_step (P x n m : Nat) (hP : P < 18446744073709551616) (hx : x < 18446744073709551616) (hm : m ≤ 63) :
    bits .or .u64 (P : Int) (IntKind.u64.wrap (bits .and .u64 ((x : Int) / 2 ^ n) 1 * 2 ^ m)) = ((P ||| (x / 2 ^ n % 2) * 2 ^ m : Nat) : Int) := by
 rw [bit_and _ _ hx]; have h1 : 2 ^ m ≤ 2 ^ 63 := Nat.pow_le_pow_right (by omega) hm; have h2 : x / 2 ^ n % 2 < 2 := Nat.mod_lt _ (by omega); generalize x / 2 ^ n % 2 = b at *; have hc : ((b : Int) * 2 ^ m) = ((b * 2 ^ m : Nat) : Int) := by simp
 have hlt : b * 2 ^ m < 18446744073709551616 := by
  generalize 2 ^ m = q at *
  rcases (show b = 0 ∨ b = 1 by omega) with e | e <;> subst e <;> omega
 rw [hc, wrap_u64_nat _ hlt, u64_or_nat _ _ hP hlt]

theorem retI {k : IntKind} {a b : Int} (h : a = b) : Ending.returned (.int k a) = .returned (.int k b) := by rw [h]

theorem turn_eq (x n : Nat) (hx : x < 268435456) (hn : n ≤ 28) :
    bits .and .u64 (bits .or .u64 (IntKind.u64.wrap ((x : Int) * 2 ^ n)) ((x : Int) / 2 ^ (28 - n))) 268435455 = (turnN x n : Nat) := by
 have h1 : x * 2 ^ n < 2 ^ 56 := by
  have : 2 ^ n ≤ 2 ^ 28 := Nat.pow_le_pow_right (by omega) hn
  calc x * 2 ^ n ≤ x * 2 ^ 28 := Nat.mul_le_mul_left _ this
   _ < 2 ^ 56 := by omega
 have h2 : x / 2 ^ (28 - n) < 2 ^ n := by
  rw [Nat.div_lt_iff_lt_mul (Nat.two_pow_pos _), ← Nat.pow_add, show n + (28 - n) = 28 by omega]; exact hx
 have h3 : 2 ^ n ≤ 2 ^ 28 := Nat.pow_le_pow_right (by omega) hn
 rw [show (x : Int) * 2 ^ n = ((x * 2 ^ n : Nat) : Int) by simp, wrap_u64_nat _ (by omega), show (x : Int) / 2 ^ (28 - n) = ((x / 2 ^ (28 - n) : Nat) : Int) by simp,
  u64_or_nat _ _ (by omega) (by omega), show (268435455 : Int) = ((268435455 : Nat) : Int) from rfl]
 have h4 : x * 2 ^ n ||| x / 2 ^ (28 - n) = x * 2 ^ n + x / 2 ^ (28 - n) := by
  rw [Nat.mul_comm, ← Nat.two_pow_add_eq_or_of_lt h2]
 rw [h4, u64_and_nat _ _ (by omega) (by omega)]
 unfold turnN
 rw [show (268435455 : Nat) = 2 ^ 28 - 1 from rfl, Nat.and_two_pow_sub_one_eq_mod]

theorem and_c (x c : Nat) (hx : x < 18446744073709551616) (hc : c < 18446744073709551616) : bits .and .u64 (x : Int) (c : Int) = ((x &&& c : Nat) : Int) := u64_and_nat _ _ hx hc

/-- bytes as a Go array -/
def byteCells (l : List Nat) : Array Value := (l.map fun (c : Nat) => Value.int .u8 (c : Int)).toArray
theorem size_byteCells (l : List Nat) : (byteCells l).size = l.length := by simp [byteCells]
theorem get_byteCells (l : List Nat) (k : Nat) (h : k < l.length) : (byteCells l)[k]? = some (.int .u8 (l[k] : Nat)) := by
 simp [byteCells, h]

theorem info_8u8 : (Tryz.prog.info? 141).map (·.size) = some 8 := by kernel_rfl
theorem info_u8 : (Tryz.prog.info? 5).map (·.size) = some 1 := by kernel_rfl
theorem index_8u8 (cs : Array Value) (k : Nat) (h : k < 8) (i : Int) (hi : i = k) (v : Value) (hv : cs[k]? = some v) (W : World) :
    (Instr.index 141 (.agg cs) (.int .i64 i)).run Tryz.prog W = .ok v W :=
 index_agg _ 5 8 cs Tryz.underlying141 info_u8 (by kernel_rfl) (by kernel_rfl) k h .i64 i hi v hv W

/-- numbers as Go cells of one kind -/
def numCells (kd : IntKind) (l : List Nat) : Array Value := (l.map fun (c : Nat) => Value.int kd (c : Int)).toArray
theorem size_numCells (kd : IntKind) (l : List Nat) : (numCells kd l).size = l.length := by simp [numCells]
theorem get_numCells (kd : IntKind) (l : List Nat) (k : Nat) (h : k < l.length) : (numCells kd l)[k]? = some (.int kd (l[k] : Nat)) := by
 simp [numCells, h]
theorem set_numCells (kd : IntKind) (l : List Nat) (k c : Nat) : (numCells kd l).setIfInBounds k (.int kd (c : Int)) = numCells kd (l.set k c) := by
 simp [numCells, List.map_set]
theorem numCells_one (kd : IntKind) (l : List Nat) : (numCells kd l).all (·.oneCell') = true := by simp [numCells, Value.oneCell']

/-- block g holds just these cells, none frozen -/
def Blk (w : World) (g : Nat) (t : TypeId) (cs : Array Value) : Prop := w.heap[g]? = some (.cells cs t (0, 0))
section
variable {w w' : World} {g : Nat} {t : TypeId} {cs : Array Value}
theorem Blk.lt (h : Blk w g t cs) : g < w.heap.size := by
 rcases Nat.lt_or_ge g w.heap.size with hlt | hge
 ·
  exact hlt
 ·
  unfold Blk at h; rw [Array.getElem?_eq_none hge] at h; cases h
theorem Blk.cell (h : Blk w g t cs) (i : Nat) : w.cell? ⟨g, i, none⟩ = cs[i]? := cell_of_row w g i cs t (0, 0) h
theorem Blk.frozen (h : Blk w g t cs) (i : Nat) : w.frozen? ⟨g, i, none⟩ = false := by
 unfold Blk at h
 simp [World.frozen?, h]
theorem Blk.new (w : World) (t : TypeId) (cs : Array Value) : Blk (w.alloc (.cells cs t)) w.heap.size t cs := heap_alloc_new w _
theorem Blk.drewN (h : Blk w g t cs) (n : Nat) : Blk (w.drewN n) g t cs := h
theorem Blk.alloc (h : Blk w g t cs) (o : Obj) : Blk (w.alloc o) g t cs := (heap_alloc_old _ _ h.lt).trans h
theorem Blk.set_ (h : Blk w g t cs) (i : Nat) (u : Value) : Blk (w.setCell ⟨g, i, none⟩ u) g t (cs.setIfInBounds i u) := by
 unfold Blk at h ⊢
 simp [World.setCell, Array.getElem?_modify, h]
theorem Blk.far (h : Blk w g t cs) {p : Addr} (hp : g ≠ p.block) (u : Value) : Blk (w.setCell p u) g t cs := (Below.heap_setCell w p u g hp).trans h
theorem Blk.below {B : Nat} (h : Blk w g t cs) (hb : Below B w w') (hg : g < B) : Blk w' g t cs := (hb.block g hg).trans h
theorem Blk.row (h : Blk w g t cs) (cs' : Array Value) : Blk (w.setRow g cs') g t cs' := setRow_heap _ _ _ _ _ _ h
theorem Blk.rowFar {g' : Nat} (h : Blk w g t cs) (hp : g ≠ g') (cs' : Array Value) : Blk (w.setRow g' cs') g t cs := by
 unfold Blk at *
 rw [setRow_other _ _ _ _ hp]; exact h
end
theorem below_drewN {B : Nat} {a w : World} (h : Below B a w) (n : Nat) : Below B a (w.drewN n) := ⟨h.os, h.tape, h.output, h.size, h.block⟩
end Go.Proofs.YtfkjkkjimdilcaaGreatDoor
