/- Blocks of one's own, arrays in memory: loads and stores by whole rows. A region that draws its order, by ONE schedule: what yields its value in every world that meets S is taken where the schedule has it; everything else comes up alone. A region that draws its order, by a schedule that forks where several of its operations may come up at once. -/
import Derived.Test.YthodpjcdmdbnoaaGreatDoorNBase
import Derived.Deep.MidRow
import Derived.Laws.ResultCell
import Derived.OrdersHeld
import Derived.Maps.AppendAt
import Derived.StillTailTactics
/- Blocks of one's own, arrays in memory: loads and stores by whole rows. -/
namespace Go.Proofs.YthodpjcdmdbnoaaGreatDoor
open Go Go.RowKit Pr

/-- only block g has turned -/
structure Only (g : Nat) (w w' : World) : Prop where
 os : w'.os = w.os
 tape : w'.tape = w.tape
 output : w'.output = w.output
 size : w'.heap.size = w.heap.size
 block : ∀ i, i ≠ g → w'.heap[i]? = w.heap[i]?

theorem Only.setCell (w : World) (g i : Nat) (u : Value) : Only g w (w.setCell ⟨g, i, none⟩ u) :=
 ⟨rfl, rfl, rfl, by simp [World.setCell], fun k hk => Below.heap_setCell w ⟨g, i, none⟩ u k hk⟩
theorem Only.trans {g : Nat} {a b c : World} (h : Only g a b) (k : Only g b c) : Only g a c :=
 ⟨k.os.trans h.os, k.tape.trans h.tape, k.output.trans h.output, k.size.trans h.size, fun i hi => (k.block i hi).trans (h.block i hi)⟩
theorem Only.refl (g : Nat) (w : World) : Only g w w := ⟨rfl, rfl, rfl, rfl, fun _ _ => rfl⟩
theorem Only.setCells (g : Nat) : ∀ (vs : List Value) (o : Nat) (w : World), Only g w (w.setCells g o vs)
 | [], _, w => Only.refl g w
 | v :: vs, o, w => (Only.setCell w g o v).trans (Only.setCells g vs (o + 1) _)
theorem Only.setRow (w : World) (g : Nat) (cs : Array Value) : Only g w (w.setRow g cs) := ⟨rfl, rfl, rfl, by simp, fun i hi => setRow_other w g i cs hi⟩
theorem Only.below {g B : Nat} {a w w' : World} (h : Only g w w') (hb : Below B a w) (hg : B ≤ g) : Below B a w' :=
 ⟨h.os.trans hb.os, h.tape.trans hb.tape, h.output.trans hb.output, by have := hb.size; have := h.size; omega, fun i hi => (h.block i (by omega)).trans (hb.block i hi)⟩
theorem Blk.only {g g' : Nat} {t : TypeId} {cs : Array Value} {w w' : World} (h : Blk w g' t cs) (ho : Only g w w') (hne : g' ≠ g) : Blk w' g' t cs := (ho.block g' hne).trans h

/-- cells written from place o on -/
def splice (cs : Array Value) (o : Nat) : List Value → Array Value
 | [] => cs
 | v :: vs => splice (cs.setIfInBounds o v) (o + 1) vs
theorem Blk.setCells {g : Nat} {t : TypeId} : ∀ (vs : List Value) (o : Nat) (cs : Array Value) (w : World), Blk w g t cs → Blk (w.setCells g o vs) g t (splice cs o vs)
 | [], _, _, _, h => h
 | v :: vs, o, _, _, h => Blk.setCells vs (o + 1) _ _ (h.set_ o v)
theorem Blk.there {g : Nat} {t : TypeId} {cs : Array Value} {w : World} (h : Blk w g t cs) (o n : Nat) (hn : o + n ≤ cs.size) : w.there g o n := fun j hj => by
 rw [h.cell, h.frozen]
 exact ⟨by simp; omega, rfl⟩
theorem Blk.range {g : Nat} {t : TypeId} {cs : Array Value} {w : World} (h : Blk w g t cs) (o : Nat) (l : List Value) (hl : ∀ j v, l[j]? = some v → cs[o + j]? = some v) : w.rangeAt g o l := fun j v hv => by
 rw [h.cell]; exact hl j v hv

theorem splice_get : ∀ (vs : List Value) (o : Nat) (cs : Array Value) (i : Nat), (splice cs o vs)[i]? = if o ≤ i ∧ i < o + vs.length ∧ i < cs.size then vs[i - o]? else cs[i]? := by
 intro vs
 induction vs with
 | nil => intro o cs i; rw [splice, if_neg (by simp; omega)]
 | cons v vs ih =>
  intro o cs i
  rw [splice, ih]
  simp only [Array.size_setIfInBounds, List.length_cons, Array.getElem?_setIfInBounds]
  by_cases h1 : i = o
  ·
   subst h1
   rw [if_neg (by omega), if_pos rfl]
   by_cases h2 : i < cs.size
   ·
    rw [if_pos h2, if_pos (by omega)]; simp
   ·
    rw [if_neg h2, if_neg (by omega), Array.getElem?_eq_none (by omega)]
  ·
   by_cases h2 : o + 1 ≤ i ∧ i < o + 1 + vs.length ∧ i < cs.size
   ·
    rw [if_pos h2, if_pos (by omega), show i - o = (i - (o + 1)) + 1 by omega, List.getElem?_cons_succ]
   ·
    rw [if_neg h2, if_neg (fun h => h1 h.symm), if_neg (by omega)]

theorem run_arrayAt {P : Program} (arr e : TypeId) (n : Nat) (ht : P.underlying arr = some (.array n e)) (a : Option Addr) (len cap : Nat) (hl : n ≤ len) (W : World) :
    (Instr.arrayAt arr (.slice a len cap)).run P W = .ok (.pointer a) W := by
 simp [Instr.arrayAt, run_underlying ht, show ¬ len < n by omega, Sem.run_bind]

/-- bytes lie in memory -/
def Bs (w : World) (b o : Nat) (l : List Nat) : Prop := w.rangeAt b o (byteCells l).toList
theorem Bs.cell {w : World} {b o : Nat} {l : List Nat} (h : Bs w b o l) (j : Nat) (hj : j < l.length) : w.cell? ⟨b, o + j, none⟩ = some (.int .u8 (l[j] : Nat)) :=
 h j _ (by simp [byteCells, hj])
theorem Bs.lt {w : World} {b o : Nat} {l : List Nat} (h : Bs w b o l) (hl : l ≠ []) : b < w.heap.size := by
 have := h.cell 0 (List.length_pos_iff.2 hl)
 exact block_lt_of_cell this
theorem Bs.below {w w' : World} {b o B : Nat} {l : List Nat} (h : Bs w b o l) (hb : Below B w w') (hB : b < B) : Bs w' b o l :=
 fun j v hv => (hb.cell (p := ⟨b, o + j, none⟩) hB).trans (h j v hv)
theorem Bs.sub {w : World} {b o : Nat} {l : List Nat} (h : Bs w b o l) (i n : Nat) : Bs w b (o + i) ((l.drop i).take n) := fun j v hv => by
 rw [Nat.add_assoc]
 refine h (i + j) v ?_
 simp only [byteCells, List.map_take, List.map_drop] at hv
 rcases Nat.lt_or_ge j n with hj | hj
 ·
  rw [List.getElem?_take_of_lt hj, List.getElem?_drop] at hv
  simpa [byteCells] using hv
 ·
  rw [List.getElem?_eq_none (by simp; omega)] at hv; cases hv
theorem Bs.of_blk {w : World} {g o : Nat} {t : TypeId} {l m : List Nat} (h : Blk w g t (byteCells l)) (hm : ∀ j c, m[j]? = some c → l[o + j]? = some c) : Bs w g o m :=
 h.range o _ fun j v hv => by
  simp only [byteCells, List.getElem?_map, Option.map_eq_some_iff] at hv
  obtain ⟨c, hc, rfl⟩ := hv
  simp [byteCells, hm j c hc]
theorem Bs.drewN {w : World} {b o : Nat} {l : List Nat} (h : Bs w b o l) (n : Nat) : Bs (w.drewN n) b o l := h
theorem results_agg_tmp {P : Program} {fn : Func} {p u : Tmp} {ty : TypeId} (h : fn.results = #[.cell p ty, .tmp u]) (tmps : Array Value) (w : World) (g : Nat) (t : TypeId) (cs : Array Value) (d : TypeDesc)
    (hp : tmps.getD p undef = .pointer (some ⟨g, 0, none⟩)) (hg : Blk w g t cs) (hu : P.underlying ty = some d) (hd : (match d with | .struct _ | .array _ _ => true | _ => false) = true) (hi : (P.info? ty).map (·.size) = some cs.size) (v : Value) (hv : tmps.getD u undef = v) :
    (results fn tmps).run P w = .ok (.tuple #[.agg cs, v]) w := by
 rw [results_cell_tmp h, hp]
 simp only [asAddr, Sem.run_pure, Result.andThen_ok, run_loadVar_row w g t ty cs (0, 0) d hg hu hd hi, hv]
theorem Blk.new2 (w : World) (o : Obj) (t : TypeId) (cs : Array Value) : Blk ((w.alloc o).alloc (.cells cs t)) (w.heap.size + 1) t cs := by
 have := Blk.new (w.alloc o) t cs
 simpa using this
theorem Bs.alloc {w : World} {b o : Nat} {l : List Nat} (h : Bs w b o l) (ob : Obj) : Bs (w.alloc ob) b o l := fun j v hv => by
 have hc := h j v hv
 have hb := block_lt_of_cell hc
 rw [World.cell?_alloc_lt w ob _ hb]; exact hc
theorem Bs.only {g b o : Nat} {l : List Nat} {w w' : World} (h : Bs w b o l) (ho : Only g w w') (hne : b ≠ g) : Bs w' b o l := fun j v hv =>
 (World.cell?_of_block (ho.block b hne)).trans (h j v hv)

section
variable {P : Program} {ops : Array Oper} {rest : List Oper} {op : Oper} {a : Act} {w : World} {Q : Exit → Act → World → Prop}
theorem wpList_load_bs (hgd : op.guard = none) (ty : TypeId) (x : Operand) (ho : op.op = .load ty x) (b o : Nat) (hx : a.eval x = .pointer (some ⟨b, o, none⟩)) (l : List Nat) (hc : Bs w b o l) (d : TypeDesc)
    (hu : P.underlying ty = some d) (hd : d.isRow = true) (hi : (P.info? ty).map (·.size) = some l.length)
    (h : wpList P ops Q rest (a.put op.dst (.agg (byteCells l))) w) : wpList P ops Q (op :: rest) a w :=
 wpList_load_mid hgd ty x ho b o hx _ d hc hu hd (by rw [hi]; simp [byteCells]) (by simpa using h)
end
end Go.Proofs.YthodpjcdmdbnoaaGreatDoor

/- A region that draws its order, by ONE schedule: what yields its value in every world that meets S is taken where the schedule has it; everything else comes up alone. -/
namespace Go.Proofs.YthodpjcdmdbnoaaGreatDoor
open Go Go.RowKit Pr

section
variable {P : Program} {ops : Array Oper} {Q : Exit → Act → World → Prop} {S : World → Prop}

/-- the schedule: an operation's number, and whether it must come up alone -/
def mixOk (ops : Array Oper) : List (Nat × Bool) → Array Bool → Bool
 | [], listed => (Region.ready .any ops listed).isEmpty
 | (i, false) :: r, listed => (Region.ready .any ops listed).contains i && Region.free .any ops listed i && mixOk ops r (listed.setIfInBounds i true)
 | (i, true) :: r, listed => (Region.ready .any ops listed == [i]) && mixOk ops r (listed.setIfInBounds i true)

def mixB (ops : Array Oper) (σ : List (Nat × Bool)) : Bool := Region.noSelect ops && (σ.length == ops.size) && mixOk ops σ (Array.replicate ops.size false)

def wpMix (P : Program) (ops : Array Oper) (Q : Exit → Act → World → Prop) (S : World → Prop) : List (Nat × Bool) → Act → World → Prop
 | [], a, w => Q .normal a w
 | (i, false) :: r, a, w => ∃ o v, ops[i]? = some o ∧ YieldsIf P ops S o v a ∧ S w ∧ wpMix P ops Q S r (a.put o.dst v) w
 | (i, true) :: r, a, w => wpOp P ops Q i (fun a' w' => S w' ∧ wpMix P ops Q S r a' w') a w

theorem wpAnyH_of_mix (hs : Region.noSelect ops = true) (hQ : ∀ c a d v w, Q (.panic c) (Act.put a d v) w → Q (.panic c) a w) :
    ∀ (σ : List (Nat × Bool)) (listed : Array Bool) (a : Act) (w : World), mixOk ops σ listed = true → wpMix P ops Q S σ a w → wpAnyH P .any ops Q S σ.length listed a w
 | [], listed, a, w, hm, h => wpAnyH_done (by simpa [mixOk] using hm) h _
 | (i, false) :: r, listed, a, w, hm, h => by
  simp only [mixOk, Bool.and_eq_true] at hm
  obtain ⟨o, v, ho, hy, hS, hr⟩ := h
  exact wpAnyH_take ho hs hm.1.2 hm.1.1 (fun c a w => hQ c a _ _ w) hy hS (wpAnyH_of_mix hs hQ r _ _ _ hm.2 hr)
 | (i, true) :: r, listed, a, w, hm, h => by
  simp only [mixOk, Bool.and_eq_true, beq_iff_eq] at hm
  refine wpAnyH_all hm.1 (by simp) fun j hj => ?_
  obtain rfl : j = i := by simpa using hj
  exact wpOp_mono (fun a' w' h' => ⟨h'.1, wpAnyH_of_mix hs hQ r _ _ _ hm.2 h'.2⟩) h

theorem wp_region_mix {id : Nat} {a : Act} {w : World} (σ : List (Nat × Bool)) (S : World → Prop) (hm : P.follows .mixedOrders = true) (hB : mixB ops σ = true)
    (hQ : ∀ c a d v w, Q (.panic c) (Act.put a d v) w → Q (.panic c) a w) (h : wpMix P ops Q S σ a w.drew) : (Code.region id ops true).wp P Q a w := by
 simp only [mixB, Bool.and_eq_true, beq_iff_eq] at hB
 refine wp_region_held (S := S) hm ?_
 have := wpAnyH_of_mix (P := P) (S := S) hB.1.1 hQ σ _ a w.drew hB.2 h
 rw [hB.1.2] at this
 exact this

variable {i : Nat} {o : Oper} {r : List (Nat × Bool)} {a : Act} {w : World}
theorem mix_q (ho : ops[i]? = some o) (hw : Region.wanted o (yielded ops a.tmps) = true) (hS : S w) (v : Value) (hrun : ∀ W, S W → (execOp a.eval o).run P W = .ok (.value v) W)
    (h : wpMix P ops Q S r (a.put o.dst v) w) : wpMix P ops Q S ((i, false) :: r) a w := ⟨o, v, ho, .inl ⟨hw, hrun⟩, hS, h⟩
theorem mix_e (ho : ops[i]? = some o) (hw : Region.wanted o (yielded ops a.tmps) = true) (h : ∀ K : Act → World → Prop, (∀ a' w', S w' → wpMix P ops Q S r a' w' → K a' w') → o.wp P a w K Q) : wpMix P ops Q S ((i, true) :: r) a w := by
 show wpOp P ops Q i _ a w
 unfold wpOp
 simp only [ho, hw, if_true]
 exact .inl (h _ fun a' w' h1 h2 => ⟨h1, h2⟩)
theorem mix_append (ho : ops[i]? = some o) (hw : Region.wanted o (yielded ops a.tmps) = true) (s x : Operand) (t : TypeId)
    (hop : o.op = .call { callee := .builtin .append, args := #[s, x], argTypes := #[t, t] })
    (base : Nat) (e : TypeId) (i0 : TypeInfo) (z : Value) (size bytes : Nat) (ht : P.underlying t = some (.slice e)) (hi : P.info? e = some i0) (hz : i0.zero = some z)
    (hsize : i0.size = size) (hby : i0.bytes = bytes) (hzs : z.cells.size = size) (hsz : 0 < size)
    (v : Value) (n : Nat) (xs : List Value) (hs : a.eval s = v) (hown : w.ownsRow base e size v n xs)
    (ad : Addr) (m c : Nat) (news : List Value) (hx : a.eval x = .slice (some ad) m c) (hl : news.length = m * size) (hnews : ∀ j u, news[j]? = some u → w.cell? (ad.add j) = some u) (h1 : ∀ u ∈ news, u.oneCell' = true)
    (h63 : n + m ≤ maxLen) (hbytes : (n + m) * bytes ≤ 140737488355328) (hbase : base ≤ w.heap.size)
    (h : ∀ v' w', w'.ownsRow base e size v' (n + m) (xs ++ news) → w.grownBy w' v.ownBlock → (v'.ownBlock = v.ownBlock ∨ v'.ownBlock = some w.heap.size) → S w' ∧ wpMix P ops Q S r (a.put o.dst v') w') :
    wpMix P ops Q S ((i, true) :: r) a w :=
 mix_e ho hw fun K hK => by
  obtain ⟨v', w', hr, h2, h3, _, h5⟩ := run_append_own_at (P := P) w base t o.type e i0 z size bytes ht hi hz hsize hby hzs hsz v n xs hown ad m c news hl hnews h1 h63 hbytes hbase
  obtain ⟨h6, h7⟩ := h v' w' h2 h3 h5
  unfold Oper.wp execOp
  simp only [hop, resolve, invoke, builtin, Sem.run_bind, Sem.run_pure, Result.andThen_ok, List.map_toArray, List.map_cons, List.map_nil, hs, hx, hr]
  exact hK _ _ h6 h7
theorem mix_done (h : Q .normal a w) : wpMix P ops Q S [] a w := h

end
end Go.Proofs.YthodpjcdmdbnoaaGreatDoor

/- A region that draws its order, by a schedule that forks where several of its operations may come up at once. -/
namespace Go.Proofs.YthodpjcdmdbnoaaGreatDoor
open Go Go.RowKit Pr

/-- a schedule: no more; an operation that yields its value whenever; all that may come up now, each with what follows -/
inductive Sch where
 | done
 | q (i : Nat) (n : Sch)
 | e (l : List Nat) (n : Nat → Sch)

section
variable {P : Program} {ops : Array Oper} {Q : Exit → Act → World → Prop} {S : World → Prop}

def Sch.ok (ops : Array Oper) : Sch → Array Bool → Bool
 | .done, listed => (Region.ready .any ops listed).isEmpty
 | .q i n, listed => (Region.ready .any ops listed).contains i && Region.free .any ops listed i && n.ok ops (listed.setIfInBounds i true)
 | .e l n, listed => (Region.ready .any ops listed == l) && !l.isEmpty && l.all fun i => (n i).ok ops (listed.setIfInBounds i true)
/-- it has m steps, whatever is taken -/
def Sch.len : Sch → Nat → Bool
 | .done, m => m == 0
 | .q _ n, m => m != 0 && n.len (m - 1)
 | .e l n, m => m != 0 && l.all fun i => (n i).len (m - 1)

def Sch.okB (ops : Array Oper) (σ : Sch) : Bool := Region.noSelect ops && σ.len ops.size && σ.ok ops (Array.replicate ops.size false)

def wpT (P : Program) (ops : Array Oper) (Q : Exit → Act → World → Prop) (S : World → Prop) : Sch → Act → World → Prop
 | .done, a, w => Q .normal a w
 | .q i n, a, w => ∃ o v, ops[i]? = some o ∧ YieldsIf P ops S o v a ∧ S w ∧ wpT P ops Q S n (a.put o.dst v) w
 | .e l n, a, w => ∀ i ∈ l, wpOp P ops Q i (fun a' w' => S w' ∧ wpT P ops Q S (n i) a' w') a w

theorem wpAnyH_of_tree (hs : Region.noSelect ops = true) (hQ : ∀ c a d v w, Q (.panic c) (Act.put a d v) w → Q (.panic c) a w) :
    ∀ (σ : Sch) (m : Nat) (listed : Array Bool) (a : Act) (w : World), σ.ok ops listed = true → σ.len m = true → wpT P ops Q S σ a w → wpAnyH P .any ops Q S m listed a w
 | .done, m, listed, a, w, hm, _, h => wpAnyH_done (by simpa [Sch.ok] using hm) h _
 | .q i n, m, listed, a, w, hm, hl, h => by
  simp only [Sch.ok, Bool.and_eq_true] at hm
  simp only [Sch.len, Bool.and_eq_true, bne_iff_ne] at hl
  obtain ⟨m, rfl⟩ := Nat.exists_eq_succ_of_ne_zero hl.1
  obtain ⟨o, v, ho, hy, hS, hr⟩ := h
  exact wpAnyH_take ho hs hm.1.2 hm.1.1 (fun c a w => hQ c a _ _ w) hy hS (wpAnyH_of_tree hs hQ n _ _ _ _ hm.2 (by simpa using hl.2) hr)
 | .e l n, m, listed, a, w, hm, hl, h => by
  simp only [Sch.ok, Bool.and_eq_true, beq_iff_eq, List.all_eq_true, Bool.not_eq_true', List.isEmpty_eq_false_iff] at hm
  simp only [Sch.len, Bool.and_eq_true, bne_iff_ne, List.all_eq_true] at hl
  obtain ⟨m, rfl⟩ := Nat.exists_eq_succ_of_ne_zero hl.1
  refine wpAnyH_all hm.1.1 hm.1.2 fun j hj => ?_
  exact wpOp_mono (fun a' w' h' => ⟨h'.1, wpAnyH_of_tree hs hQ (n j) _ _ _ _ (hm.2 j hj) (by simpa using hl.2 j hj) h'.2⟩) (h j hj)

theorem wp_region_tree {id : Nat} {a : Act} {w : World} (σ : Sch) (S : World → Prop) (hm : P.follows .mixedOrders = true) (hB : σ.okB ops = true)
    (hQ : ∀ c a d v w, Q (.panic c) (Act.put a d v) w → Q (.panic c) a w) (h : wpT P ops Q S σ a w.drew) : (Code.region id ops true).wp P Q a w := by
 simp only [Sch.okB, Bool.and_eq_true] at hB
 exact wp_region_held (S := S) hm (wpAnyH_of_tree (P := P) (S := S) hB.1.1 hQ σ _ _ a w.drew hB.2 hB.1.2 h)

variable {i : Nat} {o : Oper} {n : Sch} {a : Act} {w : World}
theorem t_q (ho : ops[i]? = some o) (hw : Region.wanted o (yielded ops a.tmps) = true) (hS : S w) (v : Value) (hrun : ∀ W, S W → (execOp a.eval o).run P W = .ok (.value v) W)
    (h : wpT P ops Q S n (a.put o.dst v) w) : wpT P ops Q S (.q i n) a w := ⟨o, v, ho, .inl ⟨hw, hrun⟩, hS, h⟩
theorem t_op (ho : ops[i]? = some o) (hw : Region.wanted o (yielded ops a.tmps) = true) (h : ∀ K : Act → World → Prop, (∀ a' w', S w' → wpT P ops Q S n a' w' → K a' w') → o.wp P a w K Q) : wpOp P ops Q i (fun a' w' => S w' ∧ wpT P ops Q S n a' w') a w := by
 unfold wpOp
 simp only [ho, hw, if_true]
 exact .inl (h _ fun a' w' h1 h2 => ⟨h1, h2⟩)
theorem t_e {f : Nat → Sch} (ho : ops[i]? = some o) (hw : Region.wanted o (yielded ops a.tmps) = true) (h : ∀ K : Act → World → Prop, (∀ a' w', S w' → wpT P ops Q S (f i) a' w' → K a' w') → o.wp P a w K Q) : wpT P ops Q S (.e [i] f) a w := by
 intro j hj
 obtain rfl : j = i := by simpa using hj
 exact t_op ho hw h
theorem t_two {f : Nat → Sch} {j : Nat} (h1 : wpOp P ops Q i (fun a' w' => S w' ∧ wpT P ops Q S (f i) a' w') a w) (h2 : wpOp P ops Q j (fun a' w' => S w' ∧ wpT P ops Q S (f j) a' w') a w) : wpT P ops Q S (.e [i, j] f) a w := by
 intro k hk
 rcases List.mem_cons.1 hk with rfl | hk
 ·
  exact h1
 ·
  obtain rfl : k = j := by simpa using hk
  exact h2
theorem t_load_bs (ho : ops[i]? = some o) (hw : Region.wanted o (yielded ops a.tmps) = true) (ty : TypeId) (x : Operand) (hop : o.op = .load ty x) (b p : Nat) (hx : a.eval x = .pointer (some ⟨b, p, none⟩)) (l : List Nat) (hS : S w) (hB : ∀ W, S W → Bs W b p l)
    (d : TypeDesc) (hu : P.underlying ty = some d) (hd : d.isRow = true) (hi : (P.info? ty).map (·.size) = some l.length)
    (h : wpT P ops Q S n (a.put o.dst (.agg (byteCells l))) w) : wpT P ops Q S (.q i n) a w :=
 t_q ho hw hS _ (fun W hW => by
  unfold execOp
  have := run_loadAt_mid (P := P) W b p ty _ d (hB W hW) hu hd (by rw [hi]; simp [byteCells])
  simp only [hop, hx, Sem.run_bind, this, Result.andThen_ok]
  simp) h
theorem t_done (h : Q .normal a w) : wpT P ops Q S .done a w := h
/-- the operation alone: a whole row stored -/
theorem op_store_row {K : Act → World → Prop} (ty : TypeId) (x y : Operand) (hop : o.op = .store ty x y) (g : Nat) (cells : Array Value) (hx : a.eval x = .pointer (some ⟨g, 0, none⟩)) (hy : a.eval y = .agg cells)
    (t : TypeId) (old : Array Value) (hB : Blk w g t old) (hi : (P.info? ty).map (·.size) = some cells.size) (hold : old.size = cells.size) (h1 : cells.all (·.oneCell') = true)
    (h : ∀ w', Blk w' g t cells → Only g w w' → K (a.put o.dst undef) w') : o.wp P a w K Q :=
 wp_store_row ty x y hop g cells hx hy t old hB hi hold h1 (h _ (hB.row _) (Only.setRow w g cells))
theorem wpList_store_all {rest : List Oper} {op : Oper} (hgd : op.guard = none) (ty : TypeId) (x y : Operand) (ho : op.op = .store ty x y) (g : Nat) (cells : Array Value) (hx : a.eval x = .pointer (some ⟨g, 0, none⟩)) (hy : a.eval y = .agg cells)
    (t : TypeId) (old : Array Value) (hB : Blk w g t old) (hi : (P.info? ty).map (·.size) = some cells.size) (hold : old.size = cells.size) (h1 : cells.all (·.oneCell') = true)
    (h : ∀ w', Blk w' g t cells → Only g w w' → wpList P ops Q rest (a.put op.dst undef) w') : wpList P ops Q (op :: rest) a w :=
 wpList_store_row hgd ty x y ho g cells hx hy t old hB hi hold h1 (h _ (hB.row _) (Only.setRow w g cells))
end
end Go.Proofs.YthodpjcdmdbnoaaGreatDoor
