/- A region that draws its order, by ONE schedule: what yields its value in every world that meets S is taken where the schedule has it; everything else comes up alone. -/
import Derived.Test.YtgffppmpmjaknaaDoorMem
import Derived.OrdersHeld
import Derived.Maps.AppendAt
namespace Go.Proofs.YtgffppmpmjaknaaDoor
open Go Go.RowKit Pr

section
variable {P : Program} {ops : Array Oper} {Q : Exit → Act → World → Prop} {S : World → Prop}

/-- the schedule: an operation's number, and whether it must come up alone -/
def mixOk (ops : Array Oper) : List (Nat × Bool) → Array Bool → Bool
  | [], listed => (Region.ready .any ops listed).isEmpty
  | (i, false) :: r, listed => (Region.ready .any ops listed).contains i && Region.free .any ops listed i && mixOk ops r (listed.setIfInBounds i true)
  | (i, true) :: r, listed => (Region.ready .any ops listed == [i]) && mixOk ops r (listed.setIfInBounds i true)

def mixB (ops : Array Oper) (σ : List (Nat × Bool)) : Bool := Region.noSelect ops && (σ.length == ops.size) && mixOk ops σ (Array.replicate ops.size false)

def wpMix (P : Program) (ops : Array Oper) (Q : Exit → Act → World → Prop) (S : World → Prop) : List (Nat × Bool) → Act → World → Prop
  | [], a, w => Q .normal a w
  | (i, false) :: r, a, w => ∃ o v, ops[i]? = some o ∧ YieldsIf P ops S o v a ∧ S w ∧ wpMix P ops Q S r (a.put o.dst v) w
  | (i, true) :: r, a, w => wpOp P ops Q i (fun a' w' => S w' ∧ wpMix P ops Q S r a' w') a w

theorem wpAnyH_of_mix (hs : Region.noSelect ops = true) (hQ : ∀ c a d v w, Q (.panic c) (Act.put a d v) w → Q (.panic c) a w) :
    ∀ (σ : List (Nat × Bool)) (listed : Array Bool) (a : Act) (w : World), mixOk ops σ listed = true → wpMix P ops Q S σ a w → wpAnyH P .any ops Q S σ.length listed a w
  | [], listed, a, w, hm, h => wpAnyH_done (by simpa [mixOk] using hm) h _
  | (i, false) :: r, listed, a, w, hm, h => by
    simp only [mixOk, Bool.and_eq_true] at hm
    obtain ⟨o, v, ho, hy, hS, hr⟩ := h
    exact wpAnyH_take ho hs hm.1.2 hm.1.1 (fun c a w => hQ c a _ _ w) hy hS (wpAnyH_of_mix hs hQ r _ _ _ hm.2 hr)
  | (i, true) :: r, listed, a, w, hm, h => by
    simp only [mixOk, Bool.and_eq_true, beq_iff_eq] at hm
    refine wpAnyH_all hm.1 (by simp) fun j hj => ?_
    obtain rfl : j = i := by simpa using hj
    exact wpOp_mono (fun a' w' h' => ⟨h'.1, wpAnyH_of_mix hs hQ r _ _ _ hm.2 h'.2⟩) h

theorem wp_region_mix {id : Nat} {a : Act} {w : World} (σ : List (Nat × Bool)) (S : World → Prop) (hm : P.follows .mixedOrders = true) (hB : mixB ops σ = true)
    (hQ : ∀ c a d v w, Q (.panic c) (Act.put a d v) w → Q (.panic c) a w) (h : wpMix P ops Q S σ a w.drew) : (Code.region id ops true).wp P Q a w := by
  simp only [mixB, Bool.and_eq_true, beq_iff_eq] at hB
  refine wp_region_held (S := S) hm ?_
  have := wpAnyH_of_mix (P := P) (S := S) hB.1.1 hQ σ _ a w.drew hB.2 h
  rw [hB.1.2] at this
  exact this

variable {i : Nat} {o : Oper} {r : List (Nat × Bool)} {a : Act} {w : World}
theorem mix_q (ho : ops[i]? = some o) (hw : Region.wanted o (yielded ops a.tmps) = true) (hS : S w) (v : Value) (hrun : ∀ W, S W → (execOp a.eval o).run P W = .ok (.value v) W)
    (h : wpMix P ops Q S r (a.put o.dst v) w) : wpMix P ops Q S ((i, false) :: r) a w := ⟨o, v, ho, .inl ⟨hw, hrun⟩, hS, h⟩
theorem mix_skip (ho : ops[i]? = some o) (hw : Region.wanted o (yielded ops a.tmps) = false) (hS : S w) (h : wpMix P ops Q S r (a.put o.dst undef) w) : wpMix P ops Q S ((i, false) :: r) a w := ⟨o, undef, ho, .inr ⟨hw, rfl⟩, hS, h⟩
theorem mix_e (ho : ops[i]? = some o) (hw : Region.wanted o (yielded ops a.tmps) = true) (h : ∀ K : Act → World → Prop, (∀ a' w', S w' → wpMix P ops Q S r a' w' → K a' w') → o.wp P a w K Q) : wpMix P ops Q S ((i, true) :: r) a w := by
  show wpOp P ops Q i _ a w
  unfold wpOp
  simp only [ho, hw, if_true]
  exact .inl (h _ fun a' w' h1 h2 => ⟨h1, h2⟩)
theorem mix_load_bs (ho : ops[i]? = some o) (hw : Region.wanted o (yielded ops a.tmps) = true) (ty : TypeId) (x : Operand) (hop : o.op = .load ty x) (b p : Nat) (hx : a.eval x = .pointer (some ⟨b, p, none⟩)) (l : List Nat) (hS : S w) (hB : ∀ W, S W → Bs W b p l)
    (d : TypeDesc) (hu : P.underlying ty = some d) (hd : d.isRow = true) (hi : (P.info? ty).map (·.size) = some l.length)
    (h : wpMix P ops Q S r (a.put o.dst (.agg (byteCells l))) w) : wpMix P ops Q S ((i, false) :: r) a w :=
  mix_q ho hw hS _ (fun W hW => by
    unfold execOp
    have := run_loadAt_mid (P := P) W b p ty _ d (hB W hW) hu hd (by rw [hi]; simp [byteCells])
    simp only [hop, hx, Sem.run_bind, this, Result.andThen_ok]
    simp) h
theorem mix_store_row (ho : ops[i]? = some o) (hw : Region.wanted o (yielded ops a.tmps) = true) (ty : TypeId) (x y : Operand) (hop : o.op = .store ty x y) (g : Nat) (cells : Array Value) (hx : a.eval x = .pointer (some ⟨g, 0, none⟩)) (hy : a.eval y = .agg cells)
    (t : TypeId) (old : Array Value) (hB : Blk w g t old) (hi : (P.info? ty).map (·.size) = some cells.size) (hold : old.size = cells.size) (h1 : cells.all (·.oneCell') = true)
    (h : ∀ w', Blk w' g t cells → Only g w w' → S w' ∧ wpMix P ops Q S r (a.put o.dst undef) w') : wpMix P ops Q S ((i, true) :: r) a w :=
  mix_e ho hw fun K hK => by
    refine wp_store_row ty x y hop g cells hx hy t old hB hi hold h1 ?_
    obtain ⟨h2, h3⟩ := h (w.setRow g cells) (hB.row _) (Only.setRow w g cells)
    exact hK _ _ h2 h3
theorem mix_append (ho : ops[i]? = some o) (hw : Region.wanted o (yielded ops a.tmps) = true) (s x : Operand) (t : TypeId)
    (hop : o.op = .call { callee := .builtin .append, args := #[s, x], argTypes := #[t, t] })
    (base : Nat) (e : TypeId) (i0 : TypeInfo) (z : Value) (size bytes : Nat) (ht : P.underlying t = some (.slice e)) (hi : P.info? e = some i0) (hz : i0.zero = some z)
    (hsize : i0.size = size) (hby : i0.bytes = bytes) (hzs : z.cells.size = size) (hsz : 0 < size)
    (v : Value) (n : Nat) (xs : List Value) (hs : a.eval s = v) (hown : w.ownsRow base e size v n xs)
    (ad : Addr) (m c : Nat) (news : List Value) (hx : a.eval x = .slice (some ad) m c) (hl : news.length = m * size) (hnews : ∀ j u, news[j]? = some u → w.cell? (ad.add j) = some u) (h1 : ∀ u ∈ news, u.oneCell' = true)
    (h63 : n + m ≤ maxLen) (hbytes : (n + m) * bytes ≤ 140737488355328) (hbase : base ≤ w.heap.size)
    (h : ∀ v' w', w'.ownsRow base e size v' (n + m) (xs ++ news) → w.grownBy w' v.ownBlock → (v'.ownBlock = v.ownBlock ∨ v'.ownBlock = some w.heap.size) → S w' ∧ wpMix P ops Q S r (a.put o.dst v') w') :
    wpMix P ops Q S ((i, true) :: r) a w :=
  mix_e ho hw fun K hK => by
    obtain ⟨v', w', hr, h2, h3, _, h5⟩ := run_append_own_at (P := P) w base t o.type e i0 z size bytes ht hi hz hsize hby hzs hsz v n xs hown ad m c news hl hnews h1 h63 hbytes hbase
    obtain ⟨h6, h7⟩ := h v' w' h2 h3 h5
    unfold Oper.wp execOp
    simp only [hop, resolve, invoke, builtin, Sem.run_bind, Sem.run_pure, Result.andThen_ok, List.map_toArray, List.map_cons, List.map_nil, hs, hx, hr]
    exact hK _ _ h6 h7
theorem mix_done (h : Q .normal a w) : wpMix P ops Q S [] a w := h

/-- an operation that is a call of a Go function -/
theorem wp_call {K : Act → World → Prop} {f : FuncId} {xs : Array Operand} {ts : Array TypeId} (_ho : o.op = .call { callee := .value (.func f), args := xs, argTypes := ts })
    (hrun : (execOp a.eval o).run P w = .ok (.enter f (xs.map a.eval)) w) (v : Value) (R : World → Prop) (hc : Calls P f (xs.map a.eval) w fun e w' => e = .returned v ∧ R w') (h : ∀ w', R w' → K (a.put o.dst v) w') : o.wp P a w K Q := by
  unfold Oper.wp
  rw [hrun]
  simp only [Oper.upon]
  refine hc.mono ?_
  rintro e w' ⟨rfl, hR⟩
  exact h w' hR
end
end Go.Proofs.YtgffppmpmjaknaaDoor
