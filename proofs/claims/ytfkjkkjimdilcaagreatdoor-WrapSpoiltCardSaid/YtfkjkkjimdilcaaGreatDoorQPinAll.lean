/- The contracts of pin.decimal, pin.Right, pin.Account, pin.both; of pvv.Pick. -/
import Derived.Test.YtfkjkkjimdilcaaGreatDoorQErr
/- The contracts of pin.decimal, pin.Account, cvv.wrong, digit.Equal. -/
namespace Go.Proofs.YtfkjkkjimdilcaaGreatDoor
open Go Go.RowKit Pr

/-- two builders, one behind the other, from block B on -/
def TwoB (B : Nat) (w wr : World) (l1 l2 : List UInt8) : Prop :=
 ∃ R1 R2, Bld wr B R1 l1 ∧ Bld wr (B + 1) R2 l2 ∧ (∀ g, R1 = some g → B + 1 < g) ∧ (∀ g, R2 = some g → B + 1 < g) ∧ (∀ g, R1 = some g → R2 ≠ some g) ∧ Below B w wr ∧ B + 2 ≤ wr.heap.size

theorem TwoB.start (w : World) : TwoB w.heap.size w ((w.alloc (.cells #[.pointer none, .slice none 0 0] 110)).alloc (.cells #[.pointer none, .slice none 0 0] 110)) [] [] :=
 ⟨none, none, ⟨.pointer none, .slice none 0 0, .inl rfl, (Blk.new w _ _).alloc _, ⟨by rfl, .inl ⟨rfl, rfl⟩⟩, rfl, by simp, fun _ => rfl⟩,
  ⟨.pointer none, .slice none 0 0, .inl rfl, Blk.new2 w _ _ _, ⟨by rfl, .inl ⟨rfl, rfl⟩⟩, rfl, by simp, fun _ => rfl⟩, by simp, by simp, by simp,
  ((Below.refl _ _).alloc lr _).alloc (by simp) _, by simp⟩

theorem TwoB.first {B : Nat} {w wr : World} {l1 l2 : List UInt8} (h : TwoB B w wr l1 l2) (hB : B ≤ w.heap.size) (c : UInt8) (x : Int) (hx : x = c.toNat) (hlen : l1.length + 1 ≤ 140737488355328) :
    Calls Tryz.prog 67 #[.pointer (some ⟨B, 0, none⟩), .int .u8 x] wr fun e w' => e = .returned .nilIface ∧ TwoB B w w' (l1 ++ [c]) l2 := by
 obtain ⟨R1, R2, h1, h2, g1, g2, g12, hb, hs⟩ := h; refine (writeByte_any B R1 l1 c x hx wr h1 hlen).mono ?_; rintro e w' ⟨rfl, A', hA', hat, hC⟩; have h2' := h2.chg hC (by omega) (fun e => by have := g1 _ e.symm; omega) (fun e => by have := g2 _ e; omega) (fun g hg e => g12 g e hg); refine ⟨rfl, A', R2, hA', h2', ?_, g2, ?_, hC.below hb hB lr (fun g hg => by have := g1 g hg; omega), by have := hC.size; omega⟩
 ·
  intro g hg
  rcases hat with e | ⟨g', e, hg'⟩
  ·
   exact g1 g (by rw [← e]; exact hg)
  ·
   rw [e] at hg; injection hg with hg; omega
 ·
  intro g hg e2
  rcases hat with e | ⟨g', e, hg'⟩
  ·
   exact g12 g (by rw [← e]; exact hg) e2
  ·
   rw [e] at hg; injection hg with hg; have := h2.row_lt e2; omega
theorem cat_bytes (D L : List UInt8) : ((⟨D.toArray⟩ : ByteArray) ++ (⟨L.toArray⟩ : ByteArray)) = ⟨(D ++ L).toArray⟩ := by
 apply ByteArray.ext
 simp

end Go.Proofs.YtfkjkkjimdilcaaGreatDoor
