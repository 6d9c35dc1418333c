/- The contracts of des.parts. The contract of des.Triple, of a key of two keys. -/
import Derived.Test.YtfkjkkjimdilcaaGreatDoorQDesAll
import Derived.Test.YtfkjkkjimdilcaaGreatDoorQKit
import Derived.Laws.ResultCell
/- The contracts of des.parts. -/
namespace Go.Proofs.YtfkjkkjimdilcaaGreatDoor
open Go Go.RowKit Pr

theorem info_38u8 : (Tryz.prog.info? 174).map (·.size) = some 24 := by kernel_rfl
def z24 : List Nat := [0, 0, 0, 0, 0, 0, 0, 0, 0, 0, 0, 0, 0, 0, 0, 0, 0, 0, 0, 0, 0, 0, 0, 0]

def z8 : List Nat := [0, 0, 0, 0, 0, 0, 0, 0]
theorem cat1 (k : List Nat) (h : k.length = 8) : List.take 8 z24 ++ k ++ List.drop (8 + k.length) z24 = z8 ++ k ++ z8 := by rw [h]; rfl
theorem cat2 (k m n : List Nat) (h : k.length = 8) : List.take 0 (z8 ++ m ++ n) ++ k ++ List.drop (0 + k.length) (z8 ++ m ++ n) = k ++ m ++ n := by
 rw [h, List.take_zero, List.nil_append, List.append_assoc z8, Nat.zero_add, List.drop_left' (by rfl), List.append_assoc]
theorem cat3 (k m n : List Nat) (hk : k.length = 8) (hm : m.length = 8) (h : n.length = 8) : List.take 16 (k ++ m ++ z8) ++ n ++ List.drop (16 + n.length) (k ++ m ++ z8) = k ++ (m ++ n) := by
 rw [List.take_append_of_le_length (by simp; omega), List.take_of_length_le (by simp; omega), h, List.drop_of_length_le (by simp [z8]; omega), List.append_nil, List.append_assoc]

set_option maxHeartbeats 1000000 in
theorem parts16 (k0 k1 : List Nat) (h0 : k0.length = 8) (h1 : k1.length = 8) (b o c : Nat) (hc : 16 ≤ c) (w : World) (hB0 : Bs w b o k0) (hB1 : Bs w b (o + 8) k1) :
    Calls Tryz.prog 110 #[.slice (some ⟨b, o, none⟩) 16 c] w fun e w' => e = .returned (.tuple #[.agg (byteCells (k0 ++ (k1 ++ k0))), .bool true]) ∧ Below w.heap.size w w' := by
 have harr : ∀ a c W, (Instr.arrayAt 141 (.slice a 8 c)).run Tryz.prog W = .ok (.pointer a) W := fun a c W => run_arrayAt _ 5 8 Tryz.underlying141 a 8 c lr W; have hbl : b < w.heap.size := hB0.lt (by intro h; rw [h] at h0; cases h0); have H0 := Hh h0; clear h0; have H1 := Hh h1; clear h1
 go_enter Tryz.func110, Tryz.ntmps110
 go_wp2_with (first
  | (refine wpList_load_bs rfl 141 (.tmp 20) rfl b (o + 8) rfl k1 ((hB1.alloc _).alloc _) _ Tryz.underlying141 rfl (by rw [info_8u8, H1.out]) ?_)
  | (refine wpList_store_bytes rfl 141 (.tmp 22) (.tmp 21) rfl (w.heap.size + 1) 8 k1 rfl rfl 174 z24 (Blk.new2 w _ _ _) (by rw [info_8u8, H1.out]) (by rw [H1.out]; decide) ?_; intro w2 hK2 hO2; rw [cat1 _ H1.out] at hK2)
  | (refine wpList_load_bs rfl 141 (.tmp 25) rfl b o rfl k0 (((hB0.alloc _).alloc _).only hO2 (by omega)) _ Tryz.underlying141 rfl (by rw [info_8u8, H0.out]) ?_)
  | (refine wpList_store_bytes rfl 141 (.tmp 27) (.tmp 26) rfl (w.heap.size + 1) 0 k0 rfl rfl 174 _ hK2 (by rw [info_8u8, H0.out]) (by simp [H0.out, H1.out, z8]) ?_; intro w3 hK3 hO3; rw [cat2 _ _ _ H0.out] at hK3)
  | (refine wpList_load_bs rfl 141 (.tmp 32) rfl (w.heap.size + 1) 0 rfl k0 (Bs.of_blk hK3 (fun j c hj => by rw [Nat.zero_add, List.append_assoc, List.getElem?_append_left (List.getElem?_eq_some_iff.1 hj).1]; exact hj)) _ Tryz.underlying141 rfl (by rw [info_8u8, H0.out]) ?_)
  | (refine wpList_store_bytes rfl 141 (.tmp 34) (.tmp 33) rfl (w.heap.size + 1) 16 k0 rfl rfl 174 _ hK3 (by rw [info_8u8, H0.out]) (by simp [H0.out, H1.out, z8]) ?_; intro w4 hK4 hO4; rw [cat3 _ _ _ H0.out H1.out H0.out] at hK4)
  | (refine wpList_load_row rfl 174 (.tmp 4) rfl (w.heap.size + 1) rfl 174 _ (0,0) _ hK4 Tryz.underlying174 rfl (by rw [info_38u8, size_byteCells]; simp [H0.out, H1.out]) ?_)
  | (refine wpList_store_row rfl 174 (.tmp 2) (.tmp 35) rfl w.heap.size (byteCells (k0 ++ (k1 ++ k0))) rfl rfl 174 (byteCells z24) (((((Blk.new w _ _).alloc _).only hO2 (by omega)).only hO3 (by omega)).only hO4 (by omega)) (by rw [info_38u8, size_byteCells]; simp [H0.out, H1.out]) (by rw [size_byteCells, size_byteCells]; simp [H0.out, H1.out, z24]) (bytes_one _) ?_))
 refine bodyPost_ret (v := .tuple #[.agg (byteCells (k0 ++ (k1 ++ k0))), .bool true]) ?_ rfl ⟨rfl, ?_⟩
 ·
  exact results_agg_tmp rfl _ _ w.heap.size 174 (byteCells (k0 ++ (k1 ++ k0))) _ (by rfl) (Blk.row (((((Blk.new w _ (byteCells z24)).alloc _).only hO2 (by omega)).only hO3 (by omega)).only hO4 (by omega)) _) Tryz.underlying174 rfl (by rw [info_38u8, size_byteCells]; simp [H0.out, H1.out]) _ (by rfl)
 ·
  exact below_setRow (hO4.below (hO3.below (hO2.below (((Below.refl _ _).alloc lr _).alloc (by simp) _) (by omega)) (by omega)) (by omega)) lr _

end Go.Proofs.YtfkjkkjimdilcaaGreatDoor
