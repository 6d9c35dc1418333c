/- Blocks of one's own, arrays in memory: loads and stores by whole rows. -/
import Derived.Test.YtgffppmpmjaknaaDoorBase
import Derived.Deep.MidRow
import Derived.Laws.ResultCell
namespace Go.Proofs.YtgffppmpmjaknaaDoor
open Go Go.RowKit Pr

/-- only block g has turned -/
structure Only (g : Nat) (w w' : World) : Prop where
  os : w'.os = w.os
  tape : w'.tape = w.tape
  output : w'.output = w.output
  size : w'.heap.size = w.heap.size
  block : ∀ i, i ≠ g → w'.heap[i]? = w.heap[i]?

theorem Only.setCell (w : World) (g i : Nat) (u : Value) : Only g w (w.setCell ⟨g, i, none⟩ u) :=
  ⟨rfl, rfl, rfl, by simp [World.setCell], fun k hk => Below.heap_setCell w ⟨g, i, none⟩ u k hk⟩
theorem Only.trans {g : Nat} {a b c : World} (h : Only g a b) (k : Only g b c) : Only g a c :=
  ⟨k.os.trans h.os, k.tape.trans h.tape, k.output.trans h.output, k.size.trans h.size, fun i hi => (k.block i hi).trans (h.block i hi)⟩
theorem Only.refl (g : Nat) (w : World) : Only g w w := ⟨rfl, rfl, rfl, rfl, fun _ _ => rfl⟩
theorem Only.setCells (g : Nat) : ∀ (vs : List Value) (o : Nat) (w : World), Only g w (w.setCells g o vs)
  | [], _, w => Only.refl g w
  | v :: vs, o, w => (Only.setCell w g o v).trans (Only.setCells g vs (o + 1) _)
theorem Only.setRow (w : World) (g : Nat) (cs : Array Value) : Only g w (w.setRow g cs) := ⟨rfl, rfl, rfl, by simp, fun i hi => setRow_other w g i cs hi⟩
theorem Only.below {g B : Nat} {a w w' : World} (h : Only g w w') (hb : Below B a w) (hg : B ≤ g) : Below B a w' :=
  ⟨h.os.trans hb.os, h.tape.trans hb.tape, h.output.trans hb.output, by have := hb.size; have := h.size; omega, fun i hi => (h.block i (by omega)).trans (hb.block i hi)⟩
theorem Blk.only {g g' : Nat} {t : TypeId} {cs : Array Value} {w w' : World} (h : Blk w g' t cs) (ho : Only g w w') (hne : g' ≠ g) : Blk w' g' t cs := (ho.block g' hne).trans h

/-- cells written from place o on -/
def splice (cs : Array Value) (o : Nat) : List Value → Array Value
  | [] => cs
  | v :: vs => splice (cs.setIfInBounds o v) (o + 1) vs
theorem splice_size : ∀ (vs : List Value) (o : Nat) (cs : Array Value), (splice cs o vs).size = cs.size
  | [], _, _ => rfl
  | _ :: vs, o, cs => by rw [splice, splice_size vs]; simp
theorem Blk.setCells {g : Nat} {t : TypeId} : ∀ (vs : List Value) (o : Nat) (cs : Array Value) (w : World), Blk w g t cs → Blk (w.setCells g o vs) g t (splice cs o vs)
  | [], _, _, _, h => h
  | v :: vs, o, _, _, h => Blk.setCells vs (o + 1) _ _ (h.set_ o v)
theorem Blk.there {g : Nat} {t : TypeId} {cs : Array Value} {w : World} (h : Blk w g t cs) (o n : Nat) (hn : o + n ≤ cs.size) : w.there g o n := fun j hj => by
  rw [h.cell, h.frozen]
  exact ⟨by simp; omega, rfl⟩
theorem Blk.range {g : Nat} {t : TypeId} {cs : Array Value} {w : World} (h : Blk w g t cs) (o : Nat) (l : List Value) (hl : ∀ j v, l[j]? = some v → cs[o + j]? = some v) : w.rangeAt g o l := fun j v hv => by
  rw [h.cell]; exact hl j v hv

theorem byteCells_list (l : List Nat) : byteCells l = (l.map fun (c : Nat) => Value.int .u8 (c : Int)).toArray := rfl
theorem splice_get : ∀ (vs : List Value) (o : Nat) (cs : Array Value) (i : Nat), (splice cs o vs)[i]? = if o ≤ i ∧ i < o + vs.length ∧ i < cs.size then vs[i - o]? else cs[i]? := by
  intro vs
  induction vs with
  | nil => intro o cs i; rw [splice, if_neg (by simp; omega)]
  | cons v vs ih =>
    intro o cs i
    rw [splice, ih]
    simp only [Array.size_setIfInBounds, List.length_cons, Array.getElem?_setIfInBounds]
    by_cases h1 : i = o
    · subst h1
      rw [if_neg (by omega), if_pos rfl]
      by_cases h2 : i < cs.size
      · rw [if_pos h2, if_pos (by omega)]; simp
      · rw [if_neg h2, if_neg (by omega), Array.getElem?_eq_none (by omega)]
    · by_cases h2 : o + 1 ≤ i ∧ i < o + 1 + vs.length ∧ i < cs.size
      · rw [if_pos h2, if_pos (by omega), show i - o = (i - (o + 1)) + 1 by omega, List.getElem?_cons_succ]
      · rw [if_neg h2, if_neg (fun h => h1 h.symm), if_neg (by omega)]

/-- a text of bytes stored into a row of bytes -/
theorem splice_bytes (l m : List Nat) (o : Nat) (h : o + m.length ≤ l.length) : splice (byteCells l) o (byteCells m).toList = byteCells (l.take o ++ m ++ l.drop (o + m.length)) := by
  apply Array.ext_getElem?
  intro i
  rw [splice_get]
  have e : ∀ (x : List Nat) (j : Nat), (byteCells x)[j]? = x[j]?.map fun (c : Nat) => Value.int .u8 (c : Int) := by intro x j; simp [byteCells]
  have e2 : ∀ (x : List Nat) (j : Nat), (byteCells x).toList[j]? = x[j]?.map fun (c : Nat) => Value.int .u8 (c : Int) := by intro x j; simp [byteCells]
  have e3 : (byteCells m).toList.length = m.length := by simp [byteCells]
  rw [e, e, e2, e3, size_byteCells]
  by_cases h1 : i < o
  · rw [if_neg (by omega), List.append_assoc, List.getElem?_append_left (by simp; omega), List.getElem?_take_of_lt h1]
  · by_cases h2 : i < o + m.length
    · rw [if_pos (by omega), List.append_assoc, List.getElem?_append_right (by simp; omega), List.getElem?_append_left (by simp; omega)]
      simp [show min o l.length = o by omega]
    · rw [if_neg (by omega), List.getElem?_append_right (by simp; omega), List.getElem?_drop]
      congr 2
      simp [show min o l.length = o by omega]; omega

theorem run_arrayAt {P : Program} (arr e : TypeId) (n : Nat) (ht : P.underlying arr = some (.array n e)) (a : Option Addr) (len cap : Nat) (hl : n ≤ len) (W : World) :
    (Instr.arrayAt arr (.slice a len cap)).run P W = .ok (.pointer a) W := by
  simp [Instr.arrayAt, run_underlying ht, show ¬ len < n by omega, Sem.run_bind]

/-- bytes lie in memory -/
def Bs (w : World) (b o : Nat) (l : List Nat) : Prop := w.rangeAt b o (byteCells l).toList
theorem Bs.cell {w : World} {b o : Nat} {l : List Nat} (h : Bs w b o l) (j : Nat) (hj : j < l.length) : w.cell? ⟨b, o + j, none⟩ = some (.int .u8 (l[j] : Nat)) :=
  h j _ (by simp [byteCells, hj])
theorem Bs.lt {w : World} {b o : Nat} {l : List Nat} (h : Bs w b o l) (hl : l ≠ []) : b < w.heap.size := by
  have := h.cell 0 (List.length_pos_iff.2 hl)
  exact block_lt_of_cell this
theorem Bs.below {w w' : World} {b o B : Nat} {l : List Nat} (h : Bs w b o l) (hb : Below B w w') (hB : b < B) : Bs w' b o l :=
  fun j v hv => (hb.cell (p := ⟨b, o + j, none⟩) hB).trans (h j v hv)
theorem Bs.sub {w : World} {b o : Nat} {l : List Nat} (h : Bs w b o l) (i n : Nat) : Bs w b (o + i) ((l.drop i).take n) := fun j v hv => by
  rw [Nat.add_assoc]
  refine h (i + j) v ?_
  simp only [byteCells, List.map_take, List.map_drop] at hv
  rcases Nat.lt_or_ge j n with hj | hj
  · rw [List.getElem?_take_of_lt hj, List.getElem?_drop] at hv
    simpa [byteCells] using hv
  · rw [List.getElem?_eq_none (by simp; omega)] at hv; cases hv
theorem Bs.of_blk {w : World} {g o : Nat} {t : TypeId} {l m : List Nat} (h : Blk w g t (byteCells l)) (hm : ∀ j c, m[j]? = some c → l[o + j]? = some c) : Bs w g o m :=
  h.range o _ fun j v hv => by
    simp only [byteCells, List.getElem?_map, Option.map_eq_some_iff] at hv
    obtain ⟨c, hc, rfl⟩ := hv
    simp [byteCells, hm j c hc]
theorem Bs.drewN {w : World} {b o : Nat} {l : List Nat} (h : Bs w b o l) (n : Nat) : Bs (w.drewN n) b o l := h
theorem results_agg_tmp {P : Program} {fn : Func} {p u : Tmp} {ty : TypeId} (h : fn.results = #[.cell p ty, .tmp u]) (tmps : Array Value) (w : World) (g : Nat) (t : TypeId) (cs : Array Value) (d : TypeDesc)
    (hp : tmps.getD p undef = .pointer (some ⟨g, 0, none⟩)) (hg : Blk w g t cs) (hu : P.underlying ty = some d) (hd : (match d with | .struct _ | .array _ _ => true | _ => false) = true) (hi : (P.info? ty).map (·.size) = some cs.size) (v : Value) (hv : tmps.getD u undef = v) :
    (results fn tmps).run P w = .ok (.tuple #[.agg cs, v]) w := by
  rw [results_cell_tmp h, hp]
  simp only [asAddr, Sem.run_pure, Result.andThen_ok, run_loadVar_row w g t ty cs (0, 0) d hg hu hd hi, hv]
theorem Blk.new2 (w : World) (o : Obj) (t : TypeId) (cs : Array Value) : Blk ((w.alloc o).alloc (.cells cs t)) (w.heap.size + 1) t cs := by
  have := Blk.new (w.alloc o) t cs
  simpa using this
theorem Blk.new3 (w : World) (o p : Obj) (t : TypeId) (cs : Array Value) : Blk (((w.alloc o).alloc p).alloc (.cells cs t)) (w.heap.size + 1 + 1) t cs := by
  have := Blk.new ((w.alloc o).alloc p) t cs
  simpa using this
theorem Bs.alloc {w : World} {b o : Nat} {l : List Nat} (h : Bs w b o l) (ob : Obj) : Bs (w.alloc ob) b o l := fun j v hv => by
  have hc := h j v hv
  have hb := block_lt_of_cell hc
  rw [World.cell?_alloc_lt w ob _ hb]; exact hc
theorem Bs.only {g b o : Nat} {l : List Nat} {w w' : World} (h : Bs w b o l) (ho : Only g w w') (hne : b ≠ g) : Bs w' b o l := fun j v hv =>
  (World.cell?_of_block (ho.block b hne)).trans (h j v hv)

section
variable {P : Program} {ops : Array Oper} {rest : List Oper} {op : Oper} {a : Act} {w : World} {Q : Exit → Act → World → Prop}
theorem wpList_load_bs (hgd : op.guard = none) (ty : TypeId) (x : Operand) (ho : op.op = .load ty x) (b o : Nat) (hx : a.eval x = .pointer (some ⟨b, o, none⟩)) (l : List Nat) (hc : Bs w b o l) (d : TypeDesc)
    (hu : P.underlying ty = some d) (hd : d.isRow = true) (hi : (P.info? ty).map (·.size) = some l.length)
    (h : wpList P ops Q rest (a.put op.dst (.agg (byteCells l))) w) : wpList P ops Q (op :: rest) a w :=
  wpList_load_mid hgd ty x ho b o hx _ d hc hu hd (by rw [hi]; simp [byteCells]) (by simpa using h)
theorem wpList_store_blk (hgd : op.guard = none) (ty : TypeId) (x y : Operand) (ho : op.op = .store ty x y) (g o : Nat) (vs : Array Value) (hx : a.eval x = .pointer (some ⟨g, o, none⟩)) (hy : a.eval y = .agg vs)
    (t : TypeId) (cs : Array Value) (hB : Blk w g t cs) (hi : (P.info? ty).map (·.size) = some vs.size) (hs : o + vs.size ≤ cs.size) (h1 : vs.all (·.oneCell') = true)
    (h : ∀ w', Blk w' g t (splice cs o vs.toList) → Only g w w' → wpList P ops Q rest (a.put op.dst undef) w') : wpList P ops Q (op :: rest) a w :=
  wpList_store_mid hgd ty x y ho g o vs hx hy (hB.there o _ hs) hi h1 (h _ (Blk.setCells _ _ _ _ hB) (Only.setCells g _ _ _))
theorem wpList_store_bytes (hgd : op.guard = none) (ty : TypeId) (x y : Operand) (ho : op.op = .store ty x y) (g o : Nat) (m : List Nat) (hx : a.eval x = .pointer (some ⟨g, o, none⟩)) (hy : a.eval y = .agg (byteCells m))
    (t : TypeId) (l : List Nat) (hB : Blk w g t (byteCells l)) (hi : (P.info? ty).map (·.size) = some m.length) (hs : o + m.length ≤ l.length)
    (h : ∀ w', Blk w' g t (byteCells (l.take o ++ m ++ l.drop (o + m.length))) → Only g w w' → wpList P ops Q rest (a.put op.dst undef) w') : wpList P ops Q (op :: rest) a w :=
  wpList_store_blk hgd ty x y ho g o _ hx hy t _ hB (by rw [hi, size_byteCells]) (by rw [size_byteCells, size_byteCells]; exact hs) (by simp [byteCells, Value.oneCell']) fun w' h1 h2 =>
    h w' (by rw [← splice_bytes l m o hs]; exact h1) h2
end
end Go.Proofs.YtgffppmpmjaknaaDoor
