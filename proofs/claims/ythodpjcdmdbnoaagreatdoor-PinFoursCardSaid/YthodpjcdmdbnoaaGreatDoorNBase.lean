/- Runs of single operations, and small closers. -/
import Derived.Test.YthodpjcdmdbnoaaGreatDoorProg
import Derived.Test.YthodpjcdmdbnoaaGreatDoorNPureAll
import Derived.WalkKit
import Derived.WalkLawsBesides
import Derived.Lib.Hide
import Derived.Deep.LoopGhost
import Derived.Deep.QuietTactic
import Derived.BigQuiet
import Derived.WalkSpells
import Derived.Laws.CopyOwn
namespace Go.Proofs.YthodpjcdmdbnoaaGreatDoor
open Go Go.RowKit Pr

theorem index_str {P : Program} (t : TypeId) (ht : P.underlying t = some .string) (s : ByteArray) (k : Nat) (h : k < s.size) (i : Int) (hi : i = k) (a : Nat) (ha : (s[k]).toNat = a) (W : World) (kd : IntKind := .i64) :
    (Instr.index t (.string s) (.int kd i)).run P W = .ok (.int .u8 (a : Int)) W := by
 subst hi; subst ha
 rw [run_index_string W t s kd (k : Int) ht]
 simp [h]

/-- An element of an array that is a value. -/
theorem index_agg {P : Program} (t e : TypeId) (n : Nat) (cs : Array Value) (ht : P.underlying t = some (.array n e)) (hsz : (P.info? e).map (·.size) = some 1)
    (hag : (match P.underlying e with | some (.struct _) | some (.array _ _) => true | _ => false) = false) (hu : (P.underlying e).isSome)
    (k : Nat) (h : k < n) (kd : IntKind) (i : Int) (hi : i = k) (v : Value) (hv : cs[k]? = some v) (W : World) :
    (Instr.index t (.agg cs) (.int kd i)).run P W = .ok v W := by
 subst hi
 obtain ⟨i0, hi0⟩ : ∃ i0, P.info? e = some i0 := by cases hq : P.info? e with | none => simp [hq] at hsz | some i0 => exact ⟨i0, rfl⟩
 have hs : i0.size = 1 := by simpa [hi0] using hsz
 obtain ⟨d, hd⟩ : ∃ d, P.underlying e = some d := Option.isSome_iff_exists.1 hu
 have hagg : (isAgg e).run P W = .ok false W := by
  unfold isAgg
  rw [Sem.run_bind, run_underlying hd W]
  rw [hd] at hag
  cases d <;> simp_all
 simp [Instr.index, asIntOf, run_underlying ht, h, part, sizeOf, typeInfo, hi0, hs, hagg, hv, Sem.run_bind]

theorem retI {k : IntKind} {a b : Int} (h : a = b) : Ending.returned (.int k a) = .returned (.int k b) := by rw [h]

/-- bytes as a Go array -/
def byteCells (l : List Nat) : Array Value := (l.map fun (c : Nat) => Value.int .u8 (c : Int)).toArray
theorem size_byteCells (l : List Nat) : (byteCells l).size = l.length := by simp [byteCells]
theorem get_byteCells (l : List Nat) (k : Nat) (h : k < l.length) : (byteCells l)[k]? = some (.int .u8 (l[k] : Nat)) := by
 simp [byteCells, h]

theorem info_8u8 : (Tryz.prog.info? 23).map (·.size) = some 8 := by kernel_rfl
theorem info_u8 : (Tryz.prog.info? 5).map (·.size) = some 1 := by kernel_rfl
theorem index_8u8 (cs : Array Value) (k : Nat) (h : k < 8) (i : Int) (hi : i = k) (v : Value) (hv : cs[k]? = some v) (W : World) :
    (Instr.index 23 (.agg cs) (.int .i64 i)).run Tryz.prog W = .ok v W :=
 index_agg _ 5 8 cs Tryz.underlying23 info_u8 (by kernel_rfl) (by kernel_rfl) k h .i64 i hi v hv W

/-- numbers as Go cells of one kind -/
def numCells (kd : IntKind) (l : List Nat) : Array Value := (l.map fun (c : Nat) => Value.int kd (c : Int)).toArray
/-- block g holds just these cells, none frozen -/
def Blk (w : World) (g : Nat) (t : TypeId) (cs : Array Value) : Prop := w.heap[g]? = some (.cells cs t (0, 0))
section
variable {w w' : World} {g : Nat} {t : TypeId} {cs : Array Value}
theorem Blk.lt (h : Blk w g t cs) : g < w.heap.size := by
 rcases Nat.lt_or_ge g w.heap.size with hlt | hge
 ·
  exact hlt
 ·
  unfold Blk at h; rw [Array.getElem?_eq_none hge] at h; cases h
theorem Blk.cell (h : Blk w g t cs) (i : Nat) : w.cell? ⟨g, i, none⟩ = cs[i]? := cell_of_row w g i cs t (0, 0) h
theorem Blk.frozen (h : Blk w g t cs) (i : Nat) : w.frozen? ⟨g, i, none⟩ = false := by
 unfold Blk at h
 simp [World.frozen?, h]
theorem Blk.new (w : World) (t : TypeId) (cs : Array Value) : Blk (w.alloc (.cells cs t)) w.heap.size t cs := heap_alloc_new w _
theorem Blk.drewN (h : Blk w g t cs) (n : Nat) : Blk (w.drewN n) g t cs := h
theorem Blk.alloc (h : Blk w g t cs) (o : Obj) : Blk (w.alloc o) g t cs := (heap_alloc_old _ _ h.lt).trans h
theorem Blk.set_ (h : Blk w g t cs) (i : Nat) (u : Value) : Blk (w.setCell ⟨g, i, none⟩ u) g t (cs.setIfInBounds i u) := by
 unfold Blk at h ⊢
 simp [World.setCell, Array.getElem?_modify, h]
theorem Blk.far (h : Blk w g t cs) {p : Addr} (hp : g ≠ p.block) (u : Value) : Blk (w.setCell p u) g t cs := (Below.heap_setCell w p u g hp).trans h
theorem Blk.below {B : Nat} (h : Blk w g t cs) (hb : Below B w w') (hg : g < B) : Blk w' g t cs := (hb.block g hg).trans h
theorem Blk.row (h : Blk w g t cs) (cs' : Array Value) : Blk (w.setRow g cs') g t cs' := setRow_heap _ _ _ _ _ _ h
end
theorem below_drewN {B : Nat} {a w : World} (h : Below B a w) (n : Nat) : Below B a (w.drewN n) := ⟨h.os, h.tape, h.output, h.size, h.block⟩
end Go.Proofs.YthodpjcdmdbnoaaGreatDoor
