/- Errors as values; owned rows of bytes. -/
import Derived.Test.YtcjnkobddeiahaaDoorKit
import Derived.Test.YtcjnkobddeiahaaDoorShelf
import Derived.Laws.AppendOwn
namespace Go.Proofs.YtcjnkobddeiahaaDoor
open Go Go.RowKit Pr

/-- an error: none, a number, a Fault of a number at a place -/
inductive Er where
  | ok
  | no (n : Nat)
  | fa (at_ : Int) (n : Nat)

/-- the value v is that error in memory w; what it points to lies from block B on -/
def ErIs (w : World) (B : Nat) (v : Value) : Er → Prop
  | .ok => v = .nilIface
  | .no n => v = .iface 44 (.int .i64 (n : Int))
  | .fa p n => ∃ g, v = .iface 53 (.pointer (some ⟨g, 0, none⟩)) ∧ B ≤ g ∧ Blk w g 56 #[.int .i64 p, .iface 44 (.int .i64 (n : Int))]
theorem ErIs.below {w w' : World} {B C : Nat} {v : Value} {e : Er} (h : ErIs w B v e) (hb : Below C w w') (hC : w.heap.size ≤ C) : ErIs w' B v e := by
  cases e with
  | ok => exact h
  | no n => exact h
  | fa p n =>
    obtain ⟨g, rfl, hg, hB⟩ := h
    exact ⟨g, rfl, hg, hB.below hb (Nat.lt_of_lt_of_le hB.lt hC)⟩
theorem ErIs.more {w : World} {B C : Nat} {v : Value} {e : Er} (h : ErIs w B v e) (hC : C ≤ B) : ErIs w C v e := by
  cases e with
  | ok => exact h
  | no n => exact h
  | fa p n =>
    obtain ⟨g, rfl, hg, hB⟩ := h
    exact ⟨g, rfl, by omega, hB⟩
theorem ErIs.drewN {w : World} {B : Nat} {v : Value} {e : Er} (h : ErIs w B v e) (n : Nat) : ErIs (w.drewN n) B v e := by
  cases e with
  | ok => exact h
  | no n => exact h
  | fa p n => exact h

/-- v is a slice of bytes l that lies from block B on -/
def Own (w : World) (B : Nat) (v : Value) (l : List Nat) : Prop := w.ownsRow B 5 1 v l.length (byteCells l).toList
theorem Own.form {w : World} {B : Nat} {v : Value} {l : List Nat} (h : Own w B v l) (hl : l ≠ []) : ∃ g cap, v = .slice (some ⟨g, 0, none⟩) l.length cap ∧ B ≤ g ∧ l.length ≤ cap ∧ g < w.heap.size ∧ Bs w g 0 l := by
  rcases h.2 with ⟨_, h0⟩ | ⟨g, cap, cur, rfl, hg, hb, hc, hm, hs, ht⟩
  · exact absurd (List.length_eq_zero_iff.1 h0) hl
  · refine ⟨g, cap, rfl, hg, hc, (h.lt g rfl).2, fun j v hv => ?_⟩
    have := h.cells (g := g) rfl j v hv
    rw [Addr.add_mid] at this
    exact this
theorem Own.below {w w' : World} {B C : Nat} {v : Value} {l : List Nat} (h : Own w B v l) (hb : Below C w w') (hC : w.heap.size ≤ C) : Own w' B v l := by
  rcases h with ⟨h1, h2⟩
  refine ⟨h1, ?_⟩
  rcases h2 with h2 | ⟨g, cap, cur, rfl, hg, hgb, r⟩
  · exact .inl h2
  · refine .inr ⟨g, cap, cur, rfl, hg, (hb.block g ?_).trans hgb, r⟩
    rcases Nat.lt_or_ge g w.heap.size with hlt | hge
    · omega
    · rw [Array.getElem?_eq_none hge] at hgb; cases hgb
theorem Own.more {w : World} {B C : Nat} {v : Value} {l : List Nat} (h : Own w B v l) (hC : C ≤ B) : Own w C v l := by
  rcases h with ⟨h1, h2⟩
  refine ⟨h1, ?_⟩
  rcases h2 with h2 | ⟨g, cap, cur, rfl, hg, r⟩
  · exact .inl h2
  · exact .inr ⟨g, cap, cur, rfl, by omega, r⟩
theorem Own.nil (w : World) (B : Nat) : Own w B (.slice none 0 0) [] := ⟨rfl, .inl ⟨rfl, rfl⟩⟩

end Go.Proofs.YtcjnkobddeiahaaDoor
