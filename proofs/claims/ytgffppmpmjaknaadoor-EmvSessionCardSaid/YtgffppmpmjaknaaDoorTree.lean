/- A region that draws its order, by a schedule that forks where several of its operations may come up at once. -/
import Derived.Test.YtgffppmpmjaknaaDoorMix
import Derived.StillTailTactics
namespace Go.Proofs.YtgffppmpmjaknaaDoor
open Go Go.RowKit Pr

/-- a schedule: no more; an operation that yields its value whenever; all that may come up now, each with what follows -/
inductive Sch where
  | done
  | q (i : Nat) (n : Sch)
  | e (l : List Nat) (n : Nat → Sch)

section
variable {P : Program} {ops : Array Oper} {Q : Exit → Act → World → Prop} {S : World → Prop}

def Sch.ok (ops : Array Oper) : Sch → Array Bool → Bool
  | .done, listed => (Region.ready .any ops listed).isEmpty
  | .q i n, listed => (Region.ready .any ops listed).contains i && Region.free .any ops listed i && n.ok ops (listed.setIfInBounds i true)
  | .e l n, listed => (Region.ready .any ops listed == l) && !l.isEmpty && l.all fun i => (n i).ok ops (listed.setIfInBounds i true)
/-- it has m steps, whatever is taken -/
def Sch.len : Sch → Nat → Bool
  | .done, m => m == 0
  | .q _ n, m => m != 0 && n.len (m - 1)
  | .e l n, m => m != 0 && l.all fun i => (n i).len (m - 1)

def Sch.okB (ops : Array Oper) (σ : Sch) : Bool := Region.noSelect ops && σ.len ops.size && σ.ok ops (Array.replicate ops.size false)

def wpT (P : Program) (ops : Array Oper) (Q : Exit → Act → World → Prop) (S : World → Prop) : Sch → Act → World → Prop
  | .done, a, w => Q .normal a w
  | .q i n, a, w => ∃ o v, ops[i]? = some o ∧ YieldsIf P ops S o v a ∧ S w ∧ wpT P ops Q S n (a.put o.dst v) w
  | .e l n, a, w => ∀ i ∈ l, wpOp P ops Q i (fun a' w' => S w' ∧ wpT P ops Q S (n i) a' w') a w

theorem wpAnyH_of_tree (hs : Region.noSelect ops = true) (hQ : ∀ c a d v w, Q (.panic c) (Act.put a d v) w → Q (.panic c) a w) :
    ∀ (σ : Sch) (m : Nat) (listed : Array Bool) (a : Act) (w : World), σ.ok ops listed = true → σ.len m = true → wpT P ops Q S σ a w → wpAnyH P .any ops Q S m listed a w
  | .done, m, listed, a, w, hm, _, h => wpAnyH_done (by simpa [Sch.ok] using hm) h _
  | .q i n, m, listed, a, w, hm, hl, h => by
    simp only [Sch.ok, Bool.and_eq_true] at hm
    simp only [Sch.len, Bool.and_eq_true, bne_iff_ne] at hl
    obtain ⟨m, rfl⟩ := Nat.exists_eq_succ_of_ne_zero hl.1
    obtain ⟨o, v, ho, hy, hS, hr⟩ := h
    exact wpAnyH_take ho hs hm.1.2 hm.1.1 (fun c a w => hQ c a _ _ w) hy hS (wpAnyH_of_tree hs hQ n _ _ _ _ hm.2 (by simpa using hl.2) hr)
  | .e l n, m, listed, a, w, hm, hl, h => by
    simp only [Sch.ok, Bool.and_eq_true, beq_iff_eq, List.all_eq_true, Bool.not_eq_true', List.isEmpty_eq_false_iff] at hm
    simp only [Sch.len, Bool.and_eq_true, bne_iff_ne, List.all_eq_true] at hl
    obtain ⟨m, rfl⟩ := Nat.exists_eq_succ_of_ne_zero hl.1
    refine wpAnyH_all hm.1.1 hm.1.2 fun j hj => ?_
    exact wpOp_mono (fun a' w' h' => ⟨h'.1, wpAnyH_of_tree hs hQ (n j) _ _ _ _ (hm.2 j hj) (by simpa using hl.2 j hj) h'.2⟩) (h j hj)

theorem wp_region_tree {id : Nat} {a : Act} {w : World} (σ : Sch) (S : World → Prop) (hm : P.follows .mixedOrders = true) (hB : σ.okB ops = true)
    (hQ : ∀ c a d v w, Q (.panic c) (Act.put a d v) w → Q (.panic c) a w) (h : wpT P ops Q S σ a w.drew) : (Code.region id ops true).wp P Q a w := by
  simp only [Sch.okB, Bool.and_eq_true] at hB
  exact wp_region_held (S := S) hm (wpAnyH_of_tree (P := P) (S := S) hB.1.1 hQ σ _ _ a w.drew hB.2 hB.1.2 h)

variable {i : Nat} {o : Oper} {n : Sch} {a : Act} {w : World}
theorem t_q (ho : ops[i]? = some o) (hw : Region.wanted o (yielded ops a.tmps) = true) (hS : S w) (v : Value) (hrun : ∀ W, S W → (execOp a.eval o).run P W = .ok (.value v) W)
    (h : wpT P ops Q S n (a.put o.dst v) w) : wpT P ops Q S (.q i n) a w := ⟨o, v, ho, .inl ⟨hw, hrun⟩, hS, h⟩
theorem t_skip (ho : ops[i]? = some o) (hw : Region.wanted o (yielded ops a.tmps) = false) (hS : S w) (h : wpT P ops Q S n (a.put o.dst undef) w) : wpT P ops Q S (.q i n) a w := ⟨o, undef, ho, .inr ⟨hw, rfl⟩, hS, h⟩
theorem t_op (ho : ops[i]? = some o) (hw : Region.wanted o (yielded ops a.tmps) = true) (h : ∀ K : Act → World → Prop, (∀ a' w', S w' → wpT P ops Q S n a' w' → K a' w') → o.wp P a w K Q) : wpOp P ops Q i (fun a' w' => S w' ∧ wpT P ops Q S n a' w') a w := by
  unfold wpOp
  simp only [ho, hw, if_true]
  exact .inl (h _ fun a' w' h1 h2 => ⟨h1, h2⟩)
theorem t_e {f : Nat → Sch} (ho : ops[i]? = some o) (hw : Region.wanted o (yielded ops a.tmps) = true) (h : ∀ K : Act → World → Prop, (∀ a' w', S w' → wpT P ops Q S (f i) a' w' → K a' w') → o.wp P a w K Q) : wpT P ops Q S (.e [i] f) a w := by
  intro j hj
  obtain rfl : j = i := by simpa using hj
  exact t_op ho hw h
theorem t_two {f : Nat → Sch} {j : Nat} (h1 : wpOp P ops Q i (fun a' w' => S w' ∧ wpT P ops Q S (f i) a' w') a w) (h2 : wpOp P ops Q j (fun a' w' => S w' ∧ wpT P ops Q S (f j) a' w') a w) : wpT P ops Q S (.e [i, j] f) a w := by
  intro k hk
  rcases List.mem_cons.1 hk with rfl | hk
  · exact h1
  · obtain rfl : k = j := by simpa using hk
    exact h2
theorem t_load_bs (ho : ops[i]? = some o) (hw : Region.wanted o (yielded ops a.tmps) = true) (ty : TypeId) (x : Operand) (hop : o.op = .load ty x) (b p : Nat) (hx : a.eval x = .pointer (some ⟨b, p, none⟩)) (l : List Nat) (hS : S w) (hB : ∀ W, S W → Bs W b p l)
    (d : TypeDesc) (hu : P.underlying ty = some d) (hd : d.isRow = true) (hi : (P.info? ty).map (·.size) = some l.length)
    (h : wpT P ops Q S n (a.put o.dst (.agg (byteCells l))) w) : wpT P ops Q S (.q i n) a w :=
  t_q ho hw hS _ (fun W hW => by
    unfold execOp
    have := run_loadAt_mid (P := P) W b p ty _ d (hB W hW) hu hd (by rw [hi]; simp [byteCells])
    simp only [hop, hx, Sem.run_bind, this, Result.andThen_ok]
    simp) h
theorem t_done (h : Q .normal a w) : wpT P ops Q S .done a w := h
/-- the operation alone: a whole row stored -/
theorem op_store_row {K : Act → World → Prop} (ty : TypeId) (x y : Operand) (hop : o.op = .store ty x y) (g : Nat) (cells : Array Value) (hx : a.eval x = .pointer (some ⟨g, 0, none⟩)) (hy : a.eval y = .agg cells)
    (t : TypeId) (old : Array Value) (hB : Blk w g t old) (hi : (P.info? ty).map (·.size) = some cells.size) (hold : old.size = cells.size) (h1 : cells.all (·.oneCell') = true)
    (h : ∀ w', Blk w' g t cells → Only g w w' → K (a.put o.dst undef) w') : o.wp P a w K Q :=
  wp_store_row ty x y hop g cells hx hy t old hB hi hold h1 (h _ (hB.row _) (Only.setRow w g cells))
/-- the operation alone: bytes loaded -/
theorem op_load_bs {K : Act → World → Prop} (ty : TypeId) (x : Operand) (hop : o.op = .load ty x) (b p : Nat) (hx : a.eval x = .pointer (some ⟨b, p, none⟩)) (l : List Nat) (hB : Bs w b p l)
    (d : TypeDesc) (hu : P.underlying ty = some d) (hd : d.isRow = true) (hi : (P.info? ty).map (·.size) = some l.length)
    (h : K (a.put o.dst (.agg (byteCells l))) w) : o.wp P a w K Q := by
  have hrun : (execOp a.eval o).run P w = .ok (.value (.agg (byteCells l))) w := by
    unfold execOp
    have := run_loadAt_mid (P := P) w b p ty _ d hB hu hd (by rw [hi]; simp [byteCells])
    simp only [hop, hx, Sem.run_bind, this, Result.andThen_ok]
    simp
  unfold Oper.wp
  rw [hrun]
  exact h
/-- in a region's quiet head: bytes loaded -/
theorem still_load_bs {Q : Act → Prop} {rest : List Oper} (hw : Region.wanted o (yielded ops a.tmps) = true) (ty : TypeId) (x : Operand) (hop : o.op = .load ty x) (b p : Nat) (hx : a.eval x = .pointer (some ⟨b, p, none⟩)) (l : List Nat) (hB : Bs w b p l)
    (d : TypeDesc) (hu : P.underlying ty = some d) (hd : d.isRow = true) (hi : (P.info? ty).map (·.size) = some l.length)
    (h : wpStill P ops w Q rest (a.put o.dst (.agg (byteCells l)))) : wpStill P ops w Q (o :: rest) a := by
  unfold wpStill
  rw [hw]
  simp only [if_true]
  have hrun : (execOp a.eval o).run P w = .ok (.value (.agg (byteCells l))) w := by
    unfold execOp
    have := run_loadAt_mid (P := P) w b p ty _ d hB hu hd (by rw [hi]; simp [byteCells])
    simp only [hop, hx, Sem.run_bind, this, Result.andThen_ok]
    simp
  unfold Oper.still
  rw [hrun]
  exact ⟨rfl, h⟩
theorem wpList_store_all {rest : List Oper} {op : Oper} (hgd : op.guard = none) (ty : TypeId) (x y : Operand) (ho : op.op = .store ty x y) (g : Nat) (cells : Array Value) (hx : a.eval x = .pointer (some ⟨g, 0, none⟩)) (hy : a.eval y = .agg cells)
    (t : TypeId) (old : Array Value) (hB : Blk w g t old) (hi : (P.info? ty).map (·.size) = some cells.size) (hold : old.size = cells.size) (h1 : cells.all (·.oneCell') = true)
    (h : ∀ w', Blk w' g t cells → Only g w w' → wpList P ops Q rest (a.put op.dst undef) w') : wpList P ops Q (op :: rest) a w :=
  wpList_store_row hgd ty x y ho g cells hx hy t old hB hi hold h1 (h _ (hB.row _) (Only.setRow w g cells))
end
end Go.Proofs.YtgffppmpmjaknaaDoor
