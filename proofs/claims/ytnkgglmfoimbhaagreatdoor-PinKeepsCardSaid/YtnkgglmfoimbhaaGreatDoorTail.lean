/- A region that draws its order and whose last operation waits for all others: loads are taken ahead of quiet calls under a condition on the world that the last operation need not keep. -/
import Derived.Test.YtnkgglmfoimbhaaGreatDoorKit
namespace Go.Proofs.YtnkgglmfoimbhaaGreatDoor
open Go Go.RowKit Pr

section
variable {P : Program} {ops : Array Oper} {Q : Exit → Act → World → Prop} {S : World → Prop} {L : Nat}

/-- in whatever order; behind each operation but number L the condition holds -/
def wpN (P : Program) (ops : Array Oper) (Q : Exit → Act → World → Prop) (S : World → Prop) (L : Nat) : Nat → Array Bool → Act → World → Prop
  | 0, listed, a, w => Region.ready .any ops listed = [] ∧ Q .normal a w
  | m + 1, listed, a, w => (Region.ready .any ops listed = [] → Q .normal a w) ∧
    ∀ i ∈ Region.ready .any ops listed, wpOp P ops Q i (fun a' w' => (i ≠ L → S w') ∧ wpN P ops Q S L m (listed.setIfInBounds i true) a' w') a w

theorem wpN_any : ∀ (m : Nat) (listed : Array Bool) (a : Act) (w : World), wpN P ops Q S L m listed a w → wpAny P .any ops Q m listed a w
  | 0, _, _, _, h => h
  | m + 1, _, _, _, h => ⟨h.1, fun i hi => wpOp_mono (fun a' w' h' => wpN_any m _ a' w' h'.2) (h.2 i hi)⟩

/-- number L waits for number i -/
def waitsB (ops : Array Oper) (L i : Nat) : Bool := match ops[L]? with | some o => o.after.any fun e => Region.binds .any e && e.on == i | none => false
theorem waitsB_not {i : Nat} {listed : Array Bool} (h : waitsB ops L i = true) (hi : i ∈ Region.ready .any ops listed) : L ∉ Region.ready .any ops listed := fun hL => by
  unfold waitsB at h
  obtain ⟨_, oL, hoL, hall⟩ := mem_ready.1 hL
  rw [hoL] at h
  obtain ⟨e, he, hb⟩ := Array.any_eq_true'.1 h
  simp only [Bool.and_eq_true, beq_iff_eq] at hb
  have h1 := hall e he hb.1
  rw [hb.2] at h1
  have h0 := (mem_ready.1 hi).1
  rcases Nat.lt_or_ge i listed.size with h' | h'
  · simp [h'] at h0 h1; rw [h0] at h1; cases h1
  · simp [Array.getElem?_eq_none h'] at h1

theorem wpN_take {i : Nat} {oi : Oper} {v : Value} (hi : ops[i]? = some oi) (hsel : ∀ (j : Nat) (o : Oper) cs b, ops[j]? = some o → o.op ≠ .select cs b) (hQ : ∀ c a w, Q (.panic c) (a.put oi.dst v) w → Q (.panic c) a w) (hL : waitsB ops L i = true) :
    ∀ (m : Nat) (listed : Array Bool) (a : Act) (w : World),
      (∀ j oj, ops[j]? = some oj → j ≠ i → listed.getD j true = false → (∀ e ∈ oj.after, Region.binds .any e = true → e.on ≠ i) → oi.apart ops oj = true) →
      i ∈ Region.ready .any ops listed → YieldsIf P ops S oi v a → S w →
      wpN P ops Q S L m (listed.setIfInBounds i true) (a.put oi.dst v) w → wpN P ops Q S L (m + 1) listed a w
  | m, listed, a, w, hfree, hr, hy, hS, H => by
    refine ⟨fun h => (by rw [h] at hr; cases hr), fun j hj => ?_⟩
    by_cases hji : j = i
    · subst hji
      exact hy.wpOp hi hS ⟨fun _ => hS, H⟩
    have hj2 := ready_mono hj hji
    cases m with
    | zero => rw [H.1] at hj2; cases hj2
    | succ m =>
      have hjL : j ≠ L := fun h => waitsB_not hL hr (h ▸ hj)
      obtain ⟨hjun, oj, hoj, hall⟩ := mem_ready.1 hj
      have hnot : ∀ e ∈ oj.after, Region.binds .any e = true → e.on ≠ i := fun e he hb heq => by
        have h1 := hall e he hb
        have h0 := (mem_ready.1 hr).1
        rw [heq] at h1
        rcases Nat.lt_or_ge i listed.size with h' | h'
        · simp [h'] at h0 h1; rw [h0] at h1; cases h1
        · simp [Array.getElem?_eq_none h'] at h1
      have h2 := wpOp_putIf hoj (hfree j oj hoj hji hjun hnot) (fun cs b => hsel i oi cs b hi) (fun cs b => hsel j oj cs b hoj) hQ hy (H.2 j hj2)
      refine wpOp_mono (fun a' w' h3 => ⟨h3.2.1, wpN_take hi hsel hQ hL m (listed.setIfInBounds j true) a' w' (fun k ok hk hki hun hno => ?_) (ready_mono hr (Ne.symm hji)) h3.1 (h3.2.1 hjL) ?_⟩) h2
      · refine hfree k ok hk hki ?_ hno
        by_cases hjk : j = k
        · subst hjk; exact hjun
        · rw [getD_set_ne true hjk] at hun; exact hun
      · rw [Array.setIfInBounds_comm _ _ hji]
        exact h3.2.2

def Sch.okN (ops : Array Oper) (L : Nat) : Sch → Array Bool → Bool
  | .done, listed => (Region.ready .any ops listed).isEmpty
  | .q i n, listed => (Region.ready .any ops listed).contains i && Region.free .any ops listed i && waitsB ops L i && n.okN ops L (listed.setIfInBounds i true)
  | .e l n, listed => (Region.ready .any ops listed == l) && !l.isEmpty && l.all fun i => (n i).okN ops L (listed.setIfInBounds i true)
def Sch.okL (ops : Array Oper) (L : Nat) (σ : Sch) : Bool := Region.noSelect ops && σ.len ops.size && σ.okN ops L (Array.replicate ops.size false)

def wpS (P : Program) (ops : Array Oper) (Q : Exit → Act → World → Prop) (S : World → Prop) (L : Nat) : Sch → Act → World → Prop
  | .done, a, w => Q .normal a w
  | .q i n, a, w => ∃ o v, ops[i]? = some o ∧ YieldsIf P ops S o v a ∧ S w ∧ wpS P ops Q S L n (a.put o.dst v) w
  | .e l n, a, w => ∀ i ∈ l, wpOp P ops Q i (fun a' w' => (i ≠ L → S w') ∧ wpS P ops Q S L (n i) a' w') a w

theorem wpN_of_tree (hs : Region.noSelect ops = true) (hQ : ∀ c a d v w, Q (.panic c) (Act.put a d v) w → Q (.panic c) a w) :
    ∀ (σ : Sch) (m : Nat) (listed : Array Bool) (a : Act) (w : World), σ.okN ops L listed = true → σ.len m = true → wpS P ops Q S L σ a w → wpN P ops Q S L m listed a w
  | .done, m, listed, a, w, hm, _, h => by
    have hr : Region.ready .any ops listed = [] := by simpa [Sch.okN] using hm
    cases m with
    | zero => exact ⟨hr, h⟩
    | succ m => exact ⟨fun _ => h, by rw [hr]; simp⟩
  | .q i n, m, listed, a, w, hm, hl, h => by
    simp only [Sch.okN, Bool.and_eq_true] at hm
    simp only [Sch.len, Bool.and_eq_true, bne_iff_ne] at hl
    obtain ⟨m, rfl⟩ := Nat.exists_eq_succ_of_ne_zero hl.1
    obtain ⟨o, v, ho, hy, hS, hr⟩ := h
    exact wpN_take ho (Region.noSelect_spec hs) (fun c a w => hQ c a _ _ w) hm.1.2 m listed a w (Region.free_spec ho hm.1.1.2) (by simpa using hm.1.1.1) hy hS (wpN_of_tree hs hQ n _ _ _ _ hm.2 (by simpa using hl.2) hr)
  | .e l n, m, listed, a, w, hm, hl, h => by
    simp only [Sch.okN, Bool.and_eq_true, beq_iff_eq, List.all_eq_true, Bool.not_eq_true', List.isEmpty_eq_false_iff] at hm
    simp only [Sch.len, Bool.and_eq_true, bne_iff_ne, List.all_eq_true] at hl
    obtain ⟨m, rfl⟩ := Nat.exists_eq_succ_of_ne_zero hl.1
    refine ⟨fun h0 => absurd (hm.1.1 ▸ h0) hm.1.2, fun j hj => ?_⟩
    rw [hm.1.1] at hj
    exact wpOp_mono (fun a' w' h' => ⟨h'.1, wpN_of_tree hs hQ (n j) _ _ _ _ (hm.2 j hj) (by simpa using hl.2 j hj) h'.2⟩) (h j hj)

theorem wp_region_last {id : Nat} {a : Act} {w : World} (σ : Sch) (S : World → Prop) (L : Nat) (hm : P.follows .mixedOrders = true) (hB : σ.okL ops L = true)
    (hQ : ∀ c a d v w, Q (.panic c) (Act.put a d v) w → Q (.panic c) a w) (h : wpS P ops Q S L σ a w.drew) : (Code.region id ops true).wp P Q a w := by
  simp only [Sch.okL, Bool.and_eq_true] at hB
  exact wp_region_any hm (wpN_any _ _ _ _ (wpN_of_tree (P := P) (S := S) hB.1.1 hQ σ _ _ a w.drew hB.2 hB.1.2 h))

variable {i : Nat} {o : Oper} {n : Sch} {a : Act} {w : World}
theorem s_q (ho : ops[i]? = some o) (hw : Region.wanted o (yielded ops a.tmps) = true) (hS : S w) (v : Value) (hrun : ∀ W, S W → (execOp a.eval o).run P W = .ok (.value v) W)
    (h : wpS P ops Q S L n (a.put o.dst v) w) : wpS P ops Q S L (.q i n) a w := ⟨o, v, ho, .inl ⟨hw, hrun⟩, hS, h⟩
theorem s_e {f : Nat → Sch} (ho : ops[i]? = some o) (hw : Region.wanted o (yielded ops a.tmps) = true) (h : ∀ K : Act → World → Prop, (∀ a' w', (i ≠ L → S w') → wpS P ops Q S L (f i) a' w' → K a' w') → o.wp P a w K Q) : wpS P ops Q S L (.e [i] f) a w := by
  intro j hj
  obtain rfl : j = i := by simpa using hj
  unfold wpOp
  simp only [ho, hw, if_true]
  exact .inl (h _ fun a' w' h1 h2 => ⟨h1, h2⟩)
theorem s_done (h : Q .normal a w) : wpS P ops Q S L .done a w := h
end
end Go.Proofs.YtnkgglmfoimbhaaGreatDoor
