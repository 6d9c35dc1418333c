/- The contract of digit.Equal. Strings turned into bytes and back; one operation by its run. Rows of numbers of one's own, that grow by one. -/
import Derived.Test.YthodpjcdmdbnoaaGreatDoorNKit
import Derived.Lib.ConvBytes
import Derived.Deep.OwnRows
import Derived.Test.YthodpjcdmdbnoaaGreatDoorNStr
import Derived.Test.YthodpjcdmdbnoaaGreatDoorNErr
/- The contract of digit.Equal. -/
namespace Go.Proofs.YthodpjcdmdbnoaaGreatDoor
open Go Go.RowKit Pr

/-- where a text of bytes lies -/
def At (w : World) (A : Option Addr) (l : List Nat) : Prop := l ≠ [] → ∃ b o, A = some ⟨b, o, none⟩ ∧ Bs w b o l
theorem At.below {w w' : World} {A : Option Addr} {l : List Nat} {C : Nat} (h : At w A l) (hb : Below C w w') (hC : w.heap.size ≤ C) : At w' A l := fun hl => by
 obtain ⟨b, o, rfl, hB⟩ := h hl
 exact ⟨b, o, rfl, hB.below hb (Nat.lt_of_lt_of_le (hB.lt hl) hC)⟩
theorem xor_zero (a b : Nat) : a ^^^ b = 0 ↔ a = b := by
 constructor
 ·
  intro h
  have : a ^^^ b ^^^ b = a := by rw [Nat.xor_assoc, Nat.xor_self, Nat.xor_zero]
  rw [← this, h, Nat.zero_xor]
 ·
  rintro rfl; exact Nat.xor_self _

end Go.Proofs.YthodpjcdmdbnoaaGreatDoor

/- Strings turned into bytes and back; one operation by its run. -/
namespace Go.Proofs.YthodpjcdmdbnoaaGreatDoor
open Go Go.RowKit Pr

/-- a string's bytes as numbers -/
def sN (s : ByteArray) : List Nat := s.data.toList.map UInt8.toNat
theorem sN_lt (s : ByteArray) : ∀ c ∈ sN s, c < 256 := by
 intro c hc
 obtain ⟨x, _, rfl⟩ := List.mem_map.1 hc
 exact x.toNat_lt
section
variable {P : Program} {ops : Array Oper} {rest : List Oper} {op : Oper} {a : Act} {w : World} {Q : Exit → Act → World → Prop}
theorem wpList_run (hgd : op.guard = none) {v : Value} {w' : World} (hrun : (execOp a.eval op).run P w = .ok (.value v) w') (h : wpList P ops Q rest (a.put op.dst v) w') : wpList P ops Q (op :: rest) a w := by
 unfold wpList
 rw [show Region.wanted op (yielded ops a.tmps) = true by simp [Region.wanted, hgd]]
 simp only [if_true]
 left
 unfold Oper.wp
 rw [hrun]
 exact h
end

/-- new bytes, all zero -/
theorem run_make_bytes (kl kc : IntKind) (n : Nat) (hn : n ≤ 140737488355328) (w : World) :
    (Instr.makeSlice 22 (.int kl (n : Int)) (.int kc (n : Int))).run Tryz.prog w = .ok (.slice (some ⟨w.heap.size, 0, none⟩) n n) (w.alloc (.cells (byteCells (List.replicate n 0)) 5)) := by
 have h := run_make_row' 22 5 (.int .u8 0) 1 Tryz.underlying22 info_byte rfl kl kc n (by omega) (by omega) w
 have e : madeCells #[Value.int .u8 0] n = byteCells (List.replicate n 0) := by
  apply Array.ext
  ·
   simp [madeCells, byteCells]
  ·
   intro i h1 h2
   simp [madeCells, byteCells, Nat.mod_one]
 rw [← e]
 exact h
theorem wpList_make_bytes {ops : Array Oper} {rest : List Oper} {op : Oper} {a : Act} {w : World} {Q : Exit → Act → World → Prop} (hgd : op.guard = none) (x y : Operand) (ho : op.op = .makeSlice 22 x y) (kl kc : IntKind) (i j : Int) (n : Nat) (hi : i = n) (hj : j = n) (hx : a.eval x = .int kl i) (hy : a.eval y = .int kc j) (hn : n ≤ 140737488355328)
    (h : ∀ w', Below w.heap.size w w' → Blk w' w.heap.size 5 (byteCells (List.replicate n 0)) → w'.heap.size = w.heap.size + 1 → wpList Tryz.prog ops Q rest (a.put op.dst (.slice (some ⟨w.heap.size, 0, none⟩) n n)) w') : wpList Tryz.prog ops Q (op :: rest) a w := by
 refine wpList_run hgd (v := .slice (some ⟨w.heap.size, 0, none⟩) n n) (w' := w.alloc (.cells (byteCells (List.replicate n 0)) 5)) ?_ (h _ ((Below.refl _ _).alloc (Nat.le_refl _) _) (Blk.new w _ _) (by simp))
 unfold execOp
 simp only [ho, hx, hy, hi, hj, Sem.run_bind, run_make_bytes kl kc n hn w, Result.andThen_ok]
 simp
end Go.Proofs.YthodpjcdmdbnoaaGreatDoor

/- Rows of numbers of one's own, that grow by one. -/
namespace Go.Proofs.YthodpjcdmdbnoaaGreatDoor
open Go Go.RowKit Pr

/-- v is a slice of numbers l of kind kd that lies from block B on -/
def OwnN (e : TypeId) (kd : IntKind) (w : World) (B : Nat) (v : Value) (l : List Nat) : Prop := w.ownsRow B e 1 v l.length (numCells kd l).toList
theorem OwnN.nil (e : TypeId) (kd : IntKind) (w : World) (B : Nat) : OwnN e kd w B (.slice none 0 0) [] := ⟨rfl, .inl ⟨rfl, rfl⟩⟩
theorem OwnN.bytes {w : World} {B : Nat} {v : Value} {l : List Nat} (h : OwnN 5 .u8 w B v l) : Own w B v l := h
/-- numbers lie in memory -/
def Ns (kd : IntKind) (w : World) (b o : Nat) (l : List Nat) : Prop := w.rangeAt b o (numCells kd l).toList
theorem Ns.cell {kd : IntKind} {w : World} {b o : Nat} {l : List Nat} (h : Ns kd w b o l) (j : Nat) (hj : j < l.length) : w.cell? ⟨b, o + j, none⟩ = some (.int kd (l[j] : Nat)) :=
 h j _ (by simp [numCells, hj])
theorem Ns.lt {kd : IntKind} {w : World} {b o : Nat} {l : List Nat} (h : Ns kd w b o l) (hl : l ≠ []) : b < w.heap.size := block_lt_of_cell (h.cell 0 (List.length_pos_iff.2 hl))
theorem Ns.below {kd : IntKind} {w w' : World} {b o B : Nat} {l : List Nat} (h : Ns kd w b o l) (hb : Below B w w') (hB : b < B) : Ns kd w' b o l :=
 fun j v hv => (hb.cell (p := ⟨b, o + j, none⟩) hB).trans (h j v hv)
theorem Ns.drewN {kd : IntKind} {w : World} {b o : Nat} {l : List Nat} (h : Ns kd w b o l) (n : Nat) : Ns kd (w.drewN n) b o l := h
theorem Ns.sub {kd : IntKind} {w : World} {b o : Nat} {l : List Nat} (h : Ns kd w b o l) (i n : Nat) : Ns kd w b (o + i) ((l.drop i).take n) := fun j v hv => by
 rw [Nat.add_assoc]
 refine h (i + j) v ?_
 simp only [numCells, List.map_take, List.map_drop] at hv
 rcases Nat.lt_or_ge j n with hj | hj
 ·
  rw [List.getElem?_take_of_lt hj, List.getElem?_drop] at hv
  simpa [numCells] using hv
 ·
  rw [List.getElem?_eq_none (by simp; omega)] at hv; cases hv
/-- where a row of numbers lies, if it has any -/
def AtN (kd : IntKind) (w : World) (A : Option Addr) (l : List Nat) : Prop := l ≠ [] → ∃ b o, A = some ⟨b, o, none⟩ ∧ Ns kd w b o l
theorem AtN.below {kd : IntKind} {w w' : World} {A : Option Addr} {l : List Nat} {C : Nat} (h : AtN kd w A l) (hb : Below C w w') (hC : w.heap.size ≤ C) : AtN kd w' A l := fun hl => by
 obtain ⟨b, o, rfl, hB⟩ := h hl
 exact ⟨b, o, rfl, hB.below hb (Nat.lt_of_lt_of_le (hB.lt hl) hC)⟩
/-- an owned row, as a slice -/
theorem OwnN.form {e : TypeId} {kd : IntKind} {w : World} {B : Nat} {v : Value} {l : List Nat} (h : OwnN e kd w B v l) : ∃ A cap, v = .slice A l.length cap ∧ l.length ≤ cap ∧ AtN kd w A l := by
 rcases h.2 with ⟨hv, h0⟩ | ⟨g, cap, cur, rfl, hg, hb, hc, hm, hs, ht⟩
 ·
  have h0' : l = [] := List.length_eq_zero_iff.1 h0
  subst h0'
  exact ⟨none, 0, hv, Nat.le_refl _, fun h => absurd rfl h⟩
 ·
  refine ⟨some ⟨g, 0, none⟩, cap, rfl, hc, fun _ => ⟨g, 0, rfl, fun j v hv => ?_⟩⟩
  have := World.ownsRow.cells h (g := g) rfl j v hv
  rw [Addr.add_mid] at this
  exact this
theorem OwnN.below {e : TypeId} {kd : IntKind} {w w' : World} {B C : Nat} {v : Value} {l : List Nat} (h : OwnN e kd w B v l) (hb : Below C w w') (hC : w.heap.size ≤ C) : OwnN e kd w' B v l := by
 rcases h with ⟨h1, h2⟩
 refine ⟨h1, ?_⟩
 rcases h2 with h2 | ⟨g, cap, cur, rfl, hg, hgb, r⟩
 ·
  exact .inl h2
 ·
  refine .inr ⟨g, cap, cur, rfl, hg, (hb.block g ?_).trans hgb, r⟩
  rcases Nat.lt_or_ge g w.heap.size with hlt | hge
  ·
   omega
  ·
   rw [Array.getElem?_eq_none hge] at hgb; cases hgb
theorem OwnN.more {e : TypeId} {kd : IntKind} {w : World} {B C : Nat} {v : Value} {l : List Nat} (h : OwnN e kd w B v l) (hC : C ≤ B) : OwnN e kd w C v l := by
 rcases h with ⟨h1, h2⟩
 refine ⟨h1, ?_⟩
 rcases h2 with h2 | ⟨g, cap, cur, rfl, hg, r⟩
 ·
  exact .inl h2
 ·
  exact .inr ⟨g, cap, cur, rfl, by omega, r⟩

section
variable {P : Program} {ops : Array Oper} {rest : List Oper} {op : Oper} {a : Act} {w : World} {Q : Exit → Act → World → Prop}
/-- append of a row of numbers to a row of one's own -/
theorem wpList_append_nums (hgd : op.guard = none) (s x : Operand) (t : TypeId) (ho : op.op = .call { callee := .builtin .append, args := #[s, x], argTypes := #[t, t] })
    (kd : IntKind) (e : TypeId) (bytes : Nat) (ht : P.underlying t = some (.slice e)) (hinfo : (P.info? e).map (fun i => (i.zero, i.size, i.bytes)) = some (some (.int kd 0), 1, bytes))
    (B : Nat) (w0 : World) (v : Value) (l : List Nat) (hs : a.eval s = v) (hown : OwnN e kd w B v l) (hbel : Below B w0 w) (hB : B ≤ w.heap.size)
    (A : Option Addr) (m c : Nat) (l2 : List Nat) (hx : a.eval x = .slice A m c) (hm : l2.length = m) (hA : ∃ b o, A = some ⟨b, o, none⟩ ∧ Ns kd w b o l2)
    (h63 : l.length + m ≤ 1000000000) (hby : bytes ≤ 1000)
    (h : ∀ v' w', OwnN e kd w' B v' (l ++ l2) → Below B w0 w' → w.heap.size ≤ w'.heap.size → wpList P ops Q rest (a.put op.dst v') w') : wpList P ops Q (op :: rest) a w := by
 obtain ⟨b, o, rfl, hN⟩ := hA
 obtain ⟨i0, hi, hz0, hz1, hz2⟩ := info_parts hinfo
 refine wpList_append_own_at w hgd s x t ho B e i0 (.int kd 0) 1 bytes ht hi hz0 hz1 hz2 rfl (by decide) v l.length (numCells kd l).toList hs hown ⟨b, o, none⟩ m c (numCells kd l2).toList hx (by simp [numCells, hm]) ?_ ?_ ?_ ?_ hB ?_
 ·
  intro j u hj
  have := hN j u hj
  rwa [Addr.add_mid]
 ·
  intro u hu
  simp only [numCells, List.mem_map] at hu
  obtain ⟨c, _, rfl⟩ := hu
  rfl
 ·
  unfold maxLen; omega
 ·
  have := Nat.mul_le_mul h63 hby; omega
 ·
  intro v' w' h1 h2 _ _
  refine h v' w' ?_ (hbel.grown h2 hB (fun g hg => (World.ownsRow.lt hown g hg).1)) h2.size
  unfold OwnN
  rw [List.length_append, hm]
  have e1 : (numCells kd (l ++ l2)).toList = (numCells kd l).toList ++ (numCells kd l2).toList := by simp [numCells]
  rw [e1]
  exact h1
end
theorem info_int : (Tryz.prog.info? 3).map (fun i => (i.zero, i.size, i.bytes)) = some (some (.int .i64 0), 1, 8) := by kernel_rfl
theorem Ns.new (kd : IntKind) (w : World) (t : TypeId) (c : Nat) : Ns kd (w.alloc (.cells #[.int kd (c : Int)] t)) w.heap.size 0 [c] :=
 Blk.range (Blk.new w t #[.int kd (c : Int)]) 0 _ (fun j v hv => by rw [Nat.zero_add]; simpa [numCells] using hv)
/-- the operation alone: an append of numbers to a row of one's own -/
theorem op_append_nums {P : Program} {Q : Exit → Act → World → Prop} {K : Act → World → Prop} {op : Oper} {a : Act} {w : World} (s x : Operand) (t : TypeId) (ho : op.op = .call { callee := .builtin .append, args := #[s, x], argTypes := #[t, t] })
    (kd : IntKind) (e : TypeId) (bytes : Nat) (ht : P.underlying t = some (.slice e)) (hinfo : (P.info? e).map (fun i => (i.zero, i.size, i.bytes)) = some (some (.int kd 0), 1, bytes))
    (B : Nat) (w0 : World) (v : Value) (l : List Nat) (hs : a.eval s = v) (hown : OwnN e kd w B v l) (hbel : Below B w0 w) (hB : B ≤ w.heap.size)
    (A : Option Addr) (m c : Nat) (l2 : List Nat) (hx : a.eval x = .slice A m c) (hm : l2.length = m) (hA : ∃ b o, A = some ⟨b, o, none⟩ ∧ Ns kd w b o l2)
    (h63 : l.length + m ≤ 1000000000) (hby : bytes ≤ 1000)
    (h : ∀ v' w', OwnN e kd w' B v' (l ++ l2) → Below B w0 w' → w.heap.size ≤ w'.heap.size → K (a.put op.dst v') w') : op.wp P a w K Q := by
 obtain ⟨b, o, rfl, hN⟩ := hA
 obtain ⟨i0, hi, hz0, hz1, hz2⟩ := info_parts hinfo
 have h63' : l.length + m ≤ maxLen := by unfold maxLen; omega
 have hbytes : (l.length + m) * bytes ≤ 140737488355328 := by have := Nat.mul_le_mul h63 hby; omega
 obtain ⟨v', w', hr, h1, h2, _, _⟩ := run_append_own_at (P := P) w B t op.type e i0 (.int kd 0) 1 bytes ht hi hz0 hz1 hz2 rfl (by decide) v l.length (numCells kd l).toList hown ⟨b, o, none⟩ m c (numCells kd l2).toList (by simp [numCells, hm])
  (fun j u hj => by have := hN j u hj; rwa [Addr.add_mid]) (fun u hu => by
   simp only [numCells, List.mem_map] at hu
   obtain ⟨c, _, rfl⟩ := hu
   rfl) h63' hbytes hB
 unfold Oper.wp execOp
 simp only [ho, resolve, invoke, builtin, Sem.run_bind, Sem.run_pure, Result.andThen_ok, List.map_toArray, List.map_cons, List.map_nil, hs, hx, hr]
 refine h v' w' ?_ (hbel.grown h2 hB (fun g hg => (World.ownsRow.lt hown g hg).1)) h2.size
 unfold OwnN
 rw [List.length_append, hm]
 have e1 : (numCells kd (l ++ l2)).toList = (numCells kd l).toList ++ (numCells kd l2).toList := by simp [numCells]
 rw [e1]
 exact h1

end Go.Proofs.YthodpjcdmdbnoaaGreatDoor
