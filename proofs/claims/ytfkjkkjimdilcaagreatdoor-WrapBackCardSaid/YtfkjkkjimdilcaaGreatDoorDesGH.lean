/- The contracts of des.parts. The contract of des.Triple, of a key of two keys. -/
import Derived.Test.YtfkjkkjimdilcaaGreatDoorDesAll
import Derived.Test.YtfkjkkjimdilcaaGreatDoorKit
import Derived.Laws.ResultCell
/- The contracts of des.parts. -/
namespace Go.Proofs.YtfkjkkjimdilcaaGreatDoor
open Go Go.RowKit Pr

theorem info_38u8 : (Tryz.prog.info? 174).map (·.size) = some 24 := by kernel_rfl
def z24 : List Nat := [0, 0, 0, 0, 0, 0, 0, 0, 0, 0, 0, 0, 0, 0, 0, 0, 0, 0, 0, 0, 0, 0, 0, 0]

def z8 : List Nat := [0, 0, 0, 0, 0, 0, 0, 0]
theorem cat1 (k : List Nat) (h : k.length = 8) : List.take 8 z24 ++ k ++ List.drop (8 + k.length) z24 = z8 ++ k ++ z8 := by rw [h]; rfl
theorem cat2 (k m n : List Nat) (h : k.length = 8) : List.take 0 (z8 ++ m ++ n) ++ k ++ List.drop (0 + k.length) (z8 ++ m ++ n) = k ++ m ++ n := by
  rw [h, List.take_zero, List.nil_append, List.append_assoc z8, Nat.zero_add, List.drop_left' (by rfl), List.append_assoc]
theorem cat3 (k m n : List Nat) (hk : k.length = 8) (hm : m.length = 8) (h : n.length = 8) : List.take 16 (k ++ m ++ z8) ++ n ++ List.drop (16 + n.length) (k ++ m ++ z8) = k ++ (m ++ n) := by
  rw [List.take_append_of_le_length (by simp; omega), List.take_of_length_le (by simp; omega), h, List.drop_of_length_le (by simp [z8]; omega), List.append_nil, List.append_assoc]

set_option maxHeartbeats 1000000 in
theorem parts16 (k0 k1 : List Nat) (h0 : k0.length = 8) (h1 : k1.length = 8) (b o c : Nat) (hc : 16 ≤ c) (w : World) (hB0 : Bs w b o k0) (hB1 : Bs w b (o + 8) k1) :
    Calls Tryz.prog 110 #[.slice (some ⟨b, o, none⟩) 16 c] w fun e w' => e = .returned (.tuple #[.agg (byteCells (k0 ++ (k1 ++ k0))), .bool true]) ∧ Below w.heap.size w w' := by
  have harr : ∀ a c W, (Instr.arrayAt 141 (.slice a 8 c)).run Tryz.prog W = .ok (.pointer a) W := fun a c W => run_arrayAt _ 5 8 Tryz.underlying141 a 8 c (Nat.le_refl _) W
  have hbl : b < w.heap.size := hB0.lt (by intro h; rw [h] at h0; cases h0)
  have H0 := Lib.hid h0; clear h0
  have H1 := Lib.hid h1; clear h1
  go_enter Tryz.func110, Tryz.ntmps110
  go_wp2_with (first
    | (refine wpList_load_bs rfl 141 (.tmp 20) rfl b (o + 8) rfl k1 ((hB1.alloc _).alloc _) _ Tryz.underlying141 rfl (by rw [info_8u8, H1.out]) ?_)
    | (refine wpList_store_bytes rfl 141 (.tmp 22) (.tmp 21) rfl (w.heap.size + 1) 8 k1 rfl rfl 174 z24 (Blk.new2 w _ _ _) (by rw [info_8u8, H1.out]) (by rw [H1.out]; decide) ?_; intro w2 hK2 hO2; rw [cat1 _ H1.out] at hK2)
    | (refine wpList_load_bs rfl 141 (.tmp 25) rfl b o rfl k0 (((hB0.alloc _).alloc _).only hO2 (by omega)) _ Tryz.underlying141 rfl (by rw [info_8u8, H0.out]) ?_)
    | (refine wpList_store_bytes rfl 141 (.tmp 27) (.tmp 26) rfl (w.heap.size + 1) 0 k0 rfl rfl 174 _ hK2 (by rw [info_8u8, H0.out]) (by simp [H0.out, H1.out, z8]) ?_; intro w3 hK3 hO3; rw [cat2 _ _ _ H0.out] at hK3)
    | (refine wpList_load_bs rfl 141 (.tmp 32) rfl (w.heap.size + 1) 0 rfl k0 (Bs.of_blk hK3 (fun j c hj => by rw [Nat.zero_add, List.append_assoc, List.getElem?_append_left (List.getElem?_eq_some_iff.1 hj).1]; exact hj)) _ Tryz.underlying141 rfl (by rw [info_8u8, H0.out]) ?_)
    | (refine wpList_store_bytes rfl 141 (.tmp 34) (.tmp 33) rfl (w.heap.size + 1) 16 k0 rfl rfl 174 _ hK3 (by rw [info_8u8, H0.out]) (by simp [H0.out, H1.out, z8]) ?_; intro w4 hK4 hO4; rw [cat3 _ _ _ H0.out H1.out H0.out] at hK4)
    | (refine wpList_load_row rfl 174 (.tmp 4) rfl (w.heap.size + 1) rfl 174 _ (0,0) _ hK4 Tryz.underlying174 rfl (by rw [info_38u8, size_byteCells]; simp [H0.out, H1.out]) ?_)
    | (refine wpList_store_row rfl 174 (.tmp 2) (.tmp 35) rfl w.heap.size (byteCells (k0 ++ (k1 ++ k0))) rfl rfl 174 (byteCells z24) (((((Blk.new w _ _).alloc _).only hO2 (by omega)).only hO3 (by omega)).only hO4 (by omega)) (by rw [info_38u8, size_byteCells]; simp [H0.out, H1.out]) (by rw [size_byteCells, size_byteCells]; simp [H0.out, H1.out, z24]) (bytes_one _) ?_))
  refine bodyPost_ret (v := .tuple #[.agg (byteCells (k0 ++ (k1 ++ k0))), .bool true]) ?_ rfl ⟨rfl, ?_⟩
  · exact results_agg_tmp rfl _ _ w.heap.size 174 (byteCells (k0 ++ (k1 ++ k0))) _ (by rfl) (Blk.row (((((Blk.new w _ (byteCells z24)).alloc _).only hO2 (by omega)).only hO3 (by omega)).only hO4 (by omega)) _) Tryz.underlying174 rfl (by rw [info_38u8, size_byteCells]; simp [H0.out, H1.out]) _ (by rfl)
  · exact below_setRow (hO4.below (hO3.below (hO2.below (((Below.refl _ _).alloc (Nat.le_refl _) _).alloc (by simp) _) (by omega)) (by omega)) (by omega)) (Nat.le_refl _) _
end Go.Proofs.YtfkjkkjimdilcaaGreatDoor

/- The contract of des.Triple, of a key of two keys. -/
namespace Go.Proofs.YtfkjkkjimdilcaaGreatDoor
open Go Go.RowKit Pr

def triple16 (k0 k1 b : List Nat) (back : Bool) : List Nat := blockN k0 (blockN k1 (blockN k0 b back) (!back)) back

set_option maxHeartbeats 1000000 in
set_option maxRecDepth 100000 in
theorem triple16_fwd (k0 k1 x : List Nat) (h0 : k0.length = 8) (h1 : k1.length = 8) (hx : x.length = 8) (g0 : ∀ c ∈ k0, c < 256) (g1 : ∀ c ∈ k1, c < 256) (gx : ∀ c ∈ x, c < 256) (b o c : Nat) (hc : 16 ≤ c) (w : World) (hB0 : Bs w b o k0) (hB1 : Bs w b (o + 8) k1) :
    Calls Tryz.prog 92 #[.slice (some ⟨b, o, none⟩) 16 c, .agg (byteCells x), .bool false] w fun e w' => e = .returned (.tuple #[.agg (byteCells (triple16 k0 k1 x false)), .nilIface]) ∧ Below w.heap.size w w' := by
  have hp := Lib.hid (parts16 k0 k1 h0 h1 b o c hc)
  have hbl : b < w.heap.size := hB0.lt (by intro h; rw [h] at h0; cases h0)
  have hszx := Lib.hid (size_byteCells x)
  obtain ⟨cx, hcx⟩ : ∃ cx, byteCells x = cx := ⟨_, rfl⟩
  rw [hcx] at hszx ⊢
  have HCX := Lib.hid hcx; clear hcx
  go_enter Tryz.func92, Tryz.ntmps92
  go_wp2_with fail
  refine (hp.out _ ((hB0.alloc _).alloc _) ((hB1.alloc _).alloc _)).mono ?_
  rintro e w1 ⟨rfl, hb1⟩
  have hk : (k0 ++ (k1 ++ k0)).length = 24 := by simp; omega
  have hK := Lib.hid hk; clear hk
  obtain ⟨kk, hkk⟩ : ∃ kk, k0 ++ (k1 ++ k0) = kk := ⟨_, rfl⟩
  rw [hkk] at hK ⊢
  have hKK := Lib.hid hkk; clear hkk
  have hBx : Blk w1 w.heap.size 141 cx := Blk.below ((Blk.new w _ _).alloc _) hb1 (by simp; omega)
  obtain ⟨z, hz, hBz⟩ : ∃ z : Array Value, Hid (z.size = 8) ∧ Blk w1 (w.heap.size + 1) 141 z := ⟨_, by rfl, Blk.below (Blk.new2 w _ _ _) hb1 (by simp)⟩
  have hbel : Below w.heap.size w w1 := (((Below.refl _ _).alloc (Nat.le_refl _) _).alloc (by simp) _).trans (hb1.mono (by simp; omega))
  clear hb1
  obtain ⟨g, hg⟩ : ∃ g, w1.heap.size = g := ⟨_, rfl⟩
  have hgl : w.heap.size + 1 < g := by rw [← hg]; exact hBz.lt
  have hK0 : Blk (w1.alloc (.cells #[Value.int .u8 0, Value.int .u8 0, Value.int .u8 0, Value.int .u8 0, Value.int .u8 0, Value.int .u8 0, Value.int .u8 0, Value.int .u8 0, Value.int .u8 0, Value.int .u8 0, Value.int .u8 0, Value.int .u8 0, Value.int .u8 0, Value.int .u8 0, Value.int .u8 0, Value.int .u8 0, Value.int .u8 0, Value.int .u8 0, Value.int .u8 0, Value.int .u8 0, Value.int .u8 0, Value.int .u8 0, Value.int .u8 0, Value.int .u8 0] 174)) g 174 (byteCells z24) := by rw [← hg]; exact Blk.new w1 _ _
  go_wp2_with (first
    | (refine wpList_store_bytes rfl 174 (.tmp 8) (.tmp 13) rfl g 0 kk rfl rfl 174 z24 hK0 (by rw [info_38u8, hK.out]) (by rw [hK.out]; decide) ?_; intro w2 hK2 hO2))
  have hK2' : Blk w2 g 174 (byteCells kk) := by
    have : List.take 0 z24 ++ kk ++ List.drop (0 + kk.length) z24 = kk := by rw [hK.out]; simp [z24]
    rwa [this] at hK2
  have hBx2 : Blk w2 w.heap.size 141 cx := (hBx.alloc _).only hO2 (by omega)
  have hBz2 : Blk w2 (w.heap.size + 1) 141 z := (hBz.alloc _).only hO2 (by omega)
  have hbel2 : Below w.heap.size w w2 := hO2.below (hbel.alloc (by omega) _) (by omega)
  clear hK2 hO2 hBx hBz hbel hK0
  have hkk0 : ∀ j c, k0[j]? = some c → kk[0 + j]? = some c := fun j c hj => by
    rw [← hKK.out, Nat.zero_add, List.getElem?_append_left (List.getElem?_eq_some_iff.1 hj).1]; exact hj
  have hkk1 : ∀ j c, k1[j]? = some c → kk[8 + j]? = some c := fun j c hj => by
    rw [← hKK.out, List.getElem?_append_right (by omega), h0, show 8 + j - 8 = j by omega, List.getElem?_append_left (List.getElem?_eq_some_iff.1 hj).1]; exact hj
  have hkk2 : ∀ j c, k0[j]? = some c → kk[16 + j]? = some c := fun j c hj => by
    rw [← hKK.out, List.getElem?_append_right (by omega), h0, List.getElem?_append_right (by omega), h1, show 16 + j - 8 - 8 = j by omega]; exact hj
  have hxx : Blk w2 w.heap.size 141 (byteCells x) := by rw [HCX.out]; exact hBx2
  obtain ⟨S, hSd⟩ : ∃ S : World → Prop, S = fun W => Blk W g 174 (byteCells kk) ∧ Blk W w.heap.size 141 (byteCells x) ∧ (∃ z, z.size = 8 ∧ Blk W (w.heap.size + 1) 141 z) ∧ Below w.heap.size w W := ⟨_, rfl⟩
  have hS0 : S (w2.drewN 1) := by rw [hSd]; exact ⟨hK2'.drewN 1, hxx.drewN 1, ⟨z, hz.out, hBz2.drewN 1⟩, below_drewN hbel2 1⟩
  have f0 : ∀ W, S W → Bs W g 0 k0 := fun W h => by rw [hSd] at h; exact Bs.of_blk h.1 hkk0
  have f1 : ∀ W, S W → Bs W g 8 k1 := fun W h => by rw [hSd] at h; exact Bs.of_blk h.1 hkk1
  have f2 : ∀ W, S W → Bs W g 16 k0 := fun W h => by rw [hSd] at h; exact Bs.of_blk h.1 hkk2
  have fx : ∀ W, S W → Bs W w.heap.size 0 x := fun W h => by rw [hSd] at h; exact Bs.of_blk h.2.1 (fun j c hj => by rw [Nat.zero_add]; exact hj)
  have fkeep : ∀ W W', S W → Below W.heap.size W W' → S W' := fun W W' h hb => by
    rw [hSd] at h ⊢
    obtain ⟨h1, h2, ⟨z, hz, h3⟩, h4⟩ := h
    exact ⟨h1.below hb h1.lt, h2.below hb h2.lt, ⟨z, hz, h3.below hb h3.lt⟩, h4.trans (hb.mono h4.size)⟩
  clear hkk0 hkk1 hkk2 hxx hK2' hBx2 hBz2 hbel2 hg
  have f0' := Lib.hid f0; clear f0
  have f1' := Lib.hid f1; clear f1
  have f2' := Lib.hid f2; clear f2
  have fx' := Lib.hid fx; clear fx
  have fkeep' := Lib.hid fkeep; clear fkeep
  have HSD := Lib.hid hSd; clear hSd
  go_wp2_with fail
  refine wp_region_mix [(0, false), (1, false), (2, false), (3, false), (4, false), (5, false), (6, false), (7, false), (9, false), (10, false), (12, false), (8, true), (11, true), (13, true), (14, true), (15, false)]
    S rfl (by kernel_rfl) (fun _ _ d _ _ h => by cases d <;> exact h) ?_
  change wpMix _ _ _ _ _ _ (w2.drewN 1)
  refine mix_q rfl rfl hS0 _ (fun W hW => by (go_simp; rfl)) ?_
  go_simp
  refine mix_load_bs rfl rfl 141 (.tmp 37) rfl g 16 rfl k0 hS0 f2'.out _ Tryz.underlying141 rfl (by rw [info_8u8, h0]) ?_
  go_simp
  refine mix_q rfl rfl hS0 _ (fun W hW => by (go_simp; rfl)) ?_
  go_simp
  refine mix_load_bs rfl rfl 141 (.tmp 39) rfl g 8 rfl k1 hS0 f1'.out _ Tryz.underlying141 rfl (by rw [info_8u8, h1]) ?_
  go_simp
  refine mix_q rfl rfl hS0 _ (fun W hW => by (go_simp; rfl)) ?_
  go_simp
  refine mix_load_bs rfl rfl 141 (.tmp 41) rfl g 0 rfl k0 hS0 f0'.out _ Tryz.underlying141 rfl (by rw [info_8u8, h0]) ?_
  go_simp
  refine mix_load_bs rfl rfl 141 (.tmp 4) rfl w.heap.size 0 rfl x hS0 fx'.out _ Tryz.underlying141 rfl (by rw [info_8u8, hx]) ?_
  go_simp
  iterate 4 (refine mix_q rfl rfl hS0 _ (fun W hW => by (go_simp; rfl)) ?_; go_simp)
  refine mix_e rfl rfl fun K hK => ?_
  go_simp
  refine (block_any k0 x false h0 g0 hx gx _).mono ?_
  rintro e w3 ⟨rfl, hb3⟩
  have hS3 := fkeep'.out _ _ hS0 hb3
  refine hK _ _ hS3 ?_
  clear hK K
  go_simp
  refine mix_e rfl rfl fun K hK => ?_
  go_simp
  refine (block_any k1 _ true h1 g1 (blockN_len _ _ _) (blockN_lt _ _ _) _).mono ?_
  rintro e w4 ⟨rfl, hb4⟩
  have hS4 := fkeep'.out _ _ hS3 hb4
  refine hK _ _ hS4 ?_
  clear hK K
  go_simp
  refine mix_e rfl rfl fun K hK => ?_
  go_simp
  refine (block_any k0 _ false h0 g0 (blockN_len _ _ _) (blockN_lt _ _ _) _).mono ?_
  rintro e w5 ⟨rfl, hb5⟩
  have hS5 := fkeep'.out _ _ hS4 hb5
  refine hK _ _ hS5 ?_
  clear hK K
  go_simp
  obtain ⟨r, hr⟩ : ∃ r, blockN k0 (blockN k1 (blockN k0 x false) true) false = r := ⟨_, rfl⟩
  have hrl : r.length = 8 := by rw [← hr]; exact blockN_len _ _ _
  have hS5' := hS5
  rw [HSD.out] at hS5'
  obtain ⟨q1, q2, ⟨z5, hz5, q3⟩, q4⟩ := hS5'
  rw [hr]
  have HR := Lib.hid hr; clear hr
  refine mix_store_row rfl rfl 141 (.tmp 6) (.tmp 50) rfl (w.heap.size + 1) (byteCells r) rfl rfl 141 z5 q3 (by rw [info_8u8, size_byteCells, hrl]) (by rw [hz5, size_byteCells, hrl]) (bytes_one _) fun w6 hB6 hO6 => ?_
  have hS6 : S w6 := by
    rw [HSD.out]
    exact ⟨q1.only hO6 (by omega), q2.only hO6 (by omega), ⟨_, by rw [size_byteCells, hrl], hB6⟩, hO6.below q4 (by omega)⟩
  have hbel6 : Below w.heap.size w w6 := hO6.below q4 (by omega)
  refine ⟨hS6, ?_⟩
  clear q1 q2 q3 q4 hz5
  go_simp
  refine mix_q rfl rfl hS6 _ (fun W hW => by (go_simp; rfl)) ?_
  go_simp
  refine mix_done ?_
  go_wp2
  refine bodyPost_ret (v := .tuple #[.agg (byteCells r), .nilIface]) ?_ rfl ⟨by rw [← HR.out]; rfl, hbel6⟩
  exact results_agg_tmp rfl _ _ (w.heap.size + 1) 141 (byteCells r) _ (by rfl) hB6 Tryz.underlying141 rfl (by rw [info_8u8, size_byteCells, hrl]) _ (by rfl)
end Go.Proofs.YtfkjkkjimdilcaaGreatDoor
