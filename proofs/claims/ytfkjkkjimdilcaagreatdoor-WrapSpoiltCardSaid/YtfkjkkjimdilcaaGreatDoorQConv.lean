/- Strings turned into bytes and back; one operation by its run. -/
import Derived.Test.YtfkjkkjimdilcaaGreatDoorQEqual
import Derived.Lib.ConvBytes
import Derived.Deep.OwnRows
import Derived.Test.YtfkjkkjimdilcaaGreatDoorQStr
namespace Go.Proofs.YtfkjkkjimdilcaaGreatDoor
open Go Go.RowKit Pr

/-- a string's bytes as numbers -/
def sN (s : ByteArray) : List Nat := s.data.toList.map UInt8.toNat
theorem sN_len (s : ByteArray) : (sN s).length = s.size := by simp [sN]
theorem sN_lt (s : ByteArray) : ∀ c ∈ sN s, c < 256 := by
 intro c hc; obtain ⟨x, _, rfl⟩ := List.mem_map.1 hc; exact x.toNat_lt
section
variable {P : Program} {ops : Array Oper} {rest : List Oper} {op : Oper} {a : Act} {w : World} {Q : Exit → Act → World → Prop}
theorem wpList_run (hgd : op.guard = none) {v : Value} {w' : World} (hrun : (execOp a.eval op).run P w = .ok (.value v) w') (h : wpList P ops Q rest (a.put op.dst v) w') : wpList P ops Q (op :: rest) a w := by
 unfold wpList
 rw [show Region.wanted op (yielded ops a.tmps) = true by simp [Region.wanted, hgd]]; simp only [if_true]
 left
 unfold Oper.wp
 rw [hrun]; exact h
end

/-- new bytes, all zero -/
theorem run_make_bytes (kl kc : IntKind) (n : Nat) (hn : n ≤ 140737488355328) (w : World) :
    (Instr.makeSlice 22 (.int kl (n : Int)) (.int kc (n : Int))).run Tryz.prog w = .ok (.slice (some ⟨w.heap.size, 0, none⟩) n n) (w.alloc (.cells (byteCells (List.replicate n 0)) 5)) := by
 have h := run_make_row' 22 5 (.int .u8 0) 1 Tryz.underlying22 info_byte rfl kl kc n (by omega) (by omega) w
 have e : madeCells #[Value.int .u8 0] n = byteCells (List.replicate n 0) := by
  apply Array.ext
  ·
   simp [madeCells, byteCells]
  ·
   intro i h1 h2
   simp [madeCells, byteCells, Nat.mod_one]
 rw [← e]; exact h
theorem wpList_make_bytes {ops : Array Oper} {rest : List Oper} {op : Oper} {a : Act} {w : World} {Q : Exit → Act → World → Prop} (hgd : op.guard = none) (x y : Operand) (ho : op.op = .makeSlice 22 x y) (kl kc : IntKind) (i j : Int) (n : Nat) (hi : i = n) (hj : j = n) (hx : a.eval x = .int kl i) (hy : a.eval y = .int kc j) (hn : n ≤ 140737488355328)
    (h : ∀ w', Below w.heap.size w w' → Blk w' w.heap.size 5 (byteCells (List.replicate n 0)) → w'.heap.size = w.heap.size + 1 → wpList Tryz.prog ops Q rest (a.put op.dst (.slice (some ⟨w.heap.size, 0, none⟩) n n)) w') : wpList Tryz.prog ops Q (op :: rest) a w := by
 refine wpList_run hgd (v := .slice (some ⟨w.heap.size, 0, none⟩) n n) (w' := w.alloc (.cells (byteCells (List.replicate n 0)) 5)) ?_ (h _ ((Below.refl _ _).alloc lr _) (Blk.new w _ _) (by simp))
 unfold execOp
 simp only [ho, hx, hy, hi, hj, Sem.run_bind, run_make_bytes kl kc n hn w, Result.andThen_ok]
 simp
end Go.Proofs.YtfkjkkjimdilcaaGreatDoor
