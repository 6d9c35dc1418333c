/- The contracts of pin.decimal, pin.Right, pin.Account, pin.both; of pvv.Pick. -/
import Derived.Test.YtfkjkkjimdilcaaGreatDoorErr
/- The contracts of pin.decimal, pin.Account, cvv.wrong, digit.Equal. -/
namespace Go.Proofs.YtfkjkkjimdilcaaGreatDoor
open Go Go.RowKit Pr

theorem extract_one (s : ByteArray) (k : Nat) (h : k < s.size) : (s.extract k (k + 1)).data.toList = [s[k]] := by
  rw [Lib.extract_data]
  apply List.ext_getElem
  · simp; omega
  · intro i h1 h2
    have : i = 0 := by simpa using h2
    subst this
    simp [get_list s k h]

/-- what is wrong with decimal digits -/
def decEr (s : List UInt8) (lo hi : Nat) : Er := if s.length < lo ∨ hi < s.length then .no 2 else match badAt isDec s with | some k => .fa k 16 | none => .ok

/-- what is wrong with a PIN and an account -/
def bothEr (p a : List UInt8) : Er := match decEr p 4 12 with | .ok => decEr a 13 19 | e => e
end Go.Proofs.YtfkjkkjimdilcaaGreatDoor

/- The contract of pvv.Pick. -/
namespace Go.Proofs.YtfkjkkjimdilcaaGreatDoor
open Go Go.RowKit Pr

/-- two builders, one behind the other, from block B on -/
def TwoB (B : Nat) (w wr : World) (l1 l2 : List UInt8) : Prop :=
  ∃ R1 R2, Bld wr B R1 l1 ∧ Bld wr (B + 1) R2 l2 ∧ (∀ g, R1 = some g → B + 1 < g) ∧ (∀ g, R2 = some g → B + 1 < g) ∧ (∀ g, R1 = some g → R2 ≠ some g) ∧ Below B w wr ∧ B + 2 ≤ wr.heap.size

theorem TwoB.start (w : World) : TwoB w.heap.size w ((w.alloc (.cells #[.pointer none, .slice none 0 0] 110)).alloc (.cells #[.pointer none, .slice none 0 0] 110)) [] [] :=
  ⟨none, none, ⟨.pointer none, .slice none 0 0, .inl rfl, (Blk.new w _ _).alloc _, ⟨by rfl, .inl ⟨rfl, rfl⟩⟩, rfl, by simp, fun _ => rfl⟩,
    ⟨.pointer none, .slice none 0 0, .inl rfl, Blk.new2 w _ _ _, ⟨by rfl, .inl ⟨rfl, rfl⟩⟩, rfl, by simp, fun _ => rfl⟩, by simp, by simp, by simp,
    ((Below.refl _ _).alloc (Nat.le_refl _) _).alloc (by simp) _, by simp⟩

theorem TwoB.first {B : Nat} {w wr : World} {l1 l2 : List UInt8} (h : TwoB B w wr l1 l2) (hB : B ≤ w.heap.size) (c : UInt8) (x : Int) (hx : x = c.toNat) (hlen : l1.length + 1 ≤ 140737488355328) :
    Calls Tryz.prog 67 #[.pointer (some ⟨B, 0, none⟩), .int .u8 x] wr fun e w' => e = .returned .nilIface ∧ TwoB B w w' (l1 ++ [c]) l2 := by
  obtain ⟨R1, R2, h1, h2, g1, g2, g12, hb, hs⟩ := h
  refine (writeByte_any B R1 l1 c x hx wr h1 hlen).mono ?_
  rintro e w' ⟨rfl, A', hA', hat, hC⟩
  have h2' := h2.chg hC (by omega) (fun e => by have := g1 _ e.symm; omega) (fun e => by have := g2 _ e; omega) (fun g hg e => g12 g e hg)
  refine ⟨rfl, A', R2, hA', h2', ?_, g2, ?_, hC.below hb hB (Nat.le_refl _) (fun g hg => by have := g1 g hg; omega), by have := hC.size; omega⟩
  · intro g hg
    rcases hat with e | ⟨g', e, hg'⟩
    · exact g1 g (by rw [← e]; exact hg)
    · rw [e] at hg; injection hg with hg; omega
  · intro g hg e2
    rcases hat with e | ⟨g', e, hg'⟩
    · exact g12 g (by rw [← e]; exact hg) e2
    · rw [e] at hg; injection hg with hg; have := h2.row_lt e2; omega
theorem TwoB.second {B : Nat} {w wr : World} {l1 l2 : List UInt8} (h : TwoB B w wr l1 l2) (hB : B ≤ w.heap.size) (c : UInt8) (x : Int) (hx : x = c.toNat) (hlen : l2.length + 1 ≤ 140737488355328) :
    Calls Tryz.prog 67 #[.pointer (some ⟨B + 1, 0, none⟩), .int .u8 x] wr fun e w' => e = .returned .nilIface ∧ TwoB B w w' l1 (l2 ++ [c]) := by
  obtain ⟨R1, R2, h1, h2, g1, g2, g12, hb, hs⟩ := h
  refine (writeByte_any (B + 1) R2 l2 c x hx wr h2 hlen).mono ?_
  rintro e w' ⟨rfl, A', hA', hat, hC⟩
  have h1' := h1.chg hC (by omega) (fun e => by have := g2 _ e.symm; omega) (fun e => by have := g1 _ e; omega) (fun g hg e => g12 g hg e)
  refine ⟨rfl, R1, A', h1', hA', g1, ?_, ?_, hC.below hb hB (by omega) (fun g hg => by have := g2 g hg; omega), by have := hC.size; omega⟩
  · intro g hg
    rcases hat with e | ⟨g', e, hg'⟩
    · exact g2 g (by rw [← e]; exact hg)
    · rw [e] at hg; injection hg with hg; omega
  · intro g hg e2
    rcases hat with e | ⟨g', e, hg'⟩
    · exact g12 g hg (by rw [← e]; exact e2)
    · rw [e] at e2; injection e2 with e2; have := h1.row_lt hg; omega
theorem TwoB.str1 {B : Nat} {w wr : World} {l1 l2 : List UInt8} (h : TwoB B w wr l1 l2) (hB : B ≤ w.heap.size) :
    Calls Tryz.prog 68 #[.pointer (some ⟨B, 0, none⟩)] wr fun e w' => e = .returned (.string ⟨l1.toArray⟩) ∧ (∃ R2, Bld w' (B + 1) R2 l2 ∧ (∀ g, R2 = some g → B + 1 < g)) ∧ Below B w w' := by
  obtain ⟨R1, R2, h1, h2, g1, g2, g12, hb, hs⟩ := h
  refine (bldString_any B R1 l1 wr h1).mono ?_
  rintro e w' ⟨rfl, hC, _⟩
  exact ⟨rfl, ⟨R2, h2.chg hC (by omega) (fun e => by have := g1 _ e.symm; omega) (fun e => by have := g2 _ e; omega) (fun g hg e => g12 g e hg), g2⟩, hC.below hb hB (Nat.le_refl _) (fun g hg => by have := g1 g hg; omega)⟩

def pickEr (s : List UInt8) (n : Int) : Er := match badAt isHex s with | some k => .fa k 16 | none => if n < 0 ∨ (s.length : Int) < n then .no 2 else .ok

def pickStr (s : List UInt8) (n : Int) : List UInt8 := match pickEr s n with | .ok => (pickL s).take n.toNat | _ => []
def pickV (s : List UInt8) (n : Int) : Value := .string ⟨(pickStr s n).toArray⟩
theorem pickV_no {s : List UInt8} {n : Int} {k : Nat} (h : pickEr s n = .no k) : pickV s n = .string ⟨#[]⟩ := by unfold pickV pickStr; rw [h]
theorem pickV_fa {s : List UInt8} {n p : Int} {k : Nat} (h : pickEr s n = .fa p k) : pickV s n = .string ⟨#[]⟩ := by unfold pickV pickStr; rw [h]
theorem pickV_ok {s D L : List UInt8} {m : Nat} (h : pickEr s m = .ok) (hp : pickL s = D ++ L) (_hm : m ≤ D.length + L.length) : Value.string ((⟨(D ++ L).toArray⟩ : ByteArray).extract 0 m) = pickV s m := by
  unfold pickV pickStr
  rw [h, hp]
  congr 1
  apply ByteArray.ext
  apply Array.toList_inj.1
  rw [Lib.extract_data]
  simp
theorem cat_bytes (D L : List UInt8) : ((⟨D.toArray⟩ : ByteArray) ++ (⟨L.toArray⟩ : ByteArray)) = ⟨(D ++ L).toArray⟩ := by
  apply ByteArray.ext
  simp

end Go.Proofs.YtfkjkkjimdilcaaGreatDoor
