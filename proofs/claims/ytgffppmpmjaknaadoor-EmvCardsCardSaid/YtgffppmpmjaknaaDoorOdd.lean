/- The contracts of slices.Clone, part.odd, part.Odd. -/
import Derived.Test.YtgffppmpmjaknaaDoorEmvA
import Derived.Laws.Cover3
namespace Go.Proofs.YtgffppmpmjaknaaDoor
open Go Go.RowKit Pr

set_option maxHeartbeats 1000000 in
set_option maxRecDepth 100000 in
theorem clone_any (l : List Nat) (hl : l ≠ []) (hlen : l.length ≤ 1000000) (b o cp : Nat) (w : World) (hB : Bs w b o l) :
    Calls Tryd.prog 66 #[.slice (some ⟨b, o, none⟩) l.length cp] w fun e w' => (∃ v, e = .returned v ∧ Own w' w.heap.size v l) ∧ Below w.heap.size w w' := by
  have hpos := List.length_pos_iff.2 hl
  obtain ⟨i0, hi, hz0, hz1, hz2⟩ := info_parts info_byte
  have hq : ∀ (n : Nat) W, (binOp .eql 22 (.slice (some ⟨b, o, none⟩) n cp) (.slice none 0 0)).run Tryd.prog W = .ok (.bool false) W := fun n W => by
    simp only [binOp]
    rw [Sem.run_bind, run_equal_slice_nil W 22 5 (some ⟨b, o, none⟩) n cp Tryd.underlying22]
    rfl
  obtain ⟨n, hn⟩ : ∃ n, l.length = n := ⟨_, rfl⟩
  rw [hn] at hpos hlen ⊢
  have HN := Lib.hid hn; clear hn
  go_enter Tryd.func66, Tryd.ntmps66
  go_wp2_with (first
    | (at_builtin; refine wpList_append_grows _ rfl (.tmp 5) (.tmp 6) 22 rfl 5 i0 (.int .u8 0) 1 1 Tryd.underlying22 hi hz0 hz1 hz2 rfl (by decide) (some ⟨w.heap.size, 0, none⟩) 0 0 [] rfl (fun h => by cases h) rfl (fun _ _ j u hj => by simp at hj)
        ⟨b, o, none⟩ n cp (byteCells l).toList rfl (by simp [byteCells, HN.out]) (fun j u hj => by rw [Addr.add_mid]; exact (hB.alloc _) j u hj) (fun u hu => by simp only [byteCells, List.mem_map] at hu; obtain ⟨c, _, rfl⟩ := hu; rfl) (by omega) (by unfold maxLen; omega) (by omega) ?_; intro v' w' hown hgrow))
  have hb : Below w.heap.size w w' := ((Below.refl _ _).alloc (Nat.le_refl _) _).grown hgrow (by simp) (fun k hk => by cases hk)
  have hown' : Own w' w.heap.size v' l := by
    unfold Own
    rw [HN.out]
    simp only [List.nil_append, Nat.zero_add] at hown
    have h1 : Own w' (w.alloc (.cells #[] 5)).heap.size v' l := by unfold Own; rw [HN.out]; exact hown
    have h2 := h1.more (C := w.heap.size) (by simp)
    unfold Own at h2
    rw [HN.out] at h2
    exact h2
  go_ret
  exact ⟨⟨_, rfl, hown'⟩, hb⟩

def oddB (c : Nat) : Bool := Lib.onesCount c % 2 == 1
/-- a byte made odd -/
def oddN (c : Nat) : Nat := if oddB c then c else c ^^^ 1

set_option maxHeartbeats 1000000 in
theorem odd_any (c : Nat) (hc : c < 256) (w : World) : Calls Tryd.prog 67 #[.int .u8 (c : Int)] w fun e w' => e = .returned (.bool (oddB c)) ∧ w' = w := by
  have hO := Tryd.bits_OnesCount8 (c : Int)
  have h8 := Lib.onesCount_le8 ⟨c, hc⟩
  have hcc : (c : Int).toNat = c := rfl
  rw [hcc] at hO
  have hd : oddB c = (((Lib.onesCount c : Nat) : Int) % 2 == 1) := by
    unfold oddB
    rw [Bool.eq_iff_iff, beq_iff_eq, beq_iff_eq]; omega
  have h9 : Lib.onesCount c ≤ 8 := h8
  clear h8
  generalize Lib.onesCount c = k at *
  have HD := Lib.hid hd; clear hd
  have HO := Lib.hid (fun W => hO W (by omega) (by omega)); clear hO hcc
  go_enter Tryd.func67, Tryd.ntmps67
  go_wp2_with fail
  refine (HO.out _).mono ?_
  rintro e w' ⟨rfl, rfl⟩
  go_wp2
  go_ret
  exact ⟨by rw [HD.out]; rfl, rfl⟩
end Go.Proofs.YtgffppmpmjaknaaDoor
