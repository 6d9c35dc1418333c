/- The contract of des.Triple: keys of 8, 16, 24 bytes, both ways. The contract of Cipher.Do of TDES. -/
import Derived.Test.YtfkjkkjimdilcaaGreatDoorQDesGH
import Derived.Test.YtfkjkkjimdilcaaGreatDoorQEqual
import Derived.Test.YtfkjkkjimdilcaaGreatDoorQBlk
set_option maxHeartbeats 8000000
set_option maxRecDepth 100000
/- The contract of des.Triple: keys of 8, 16, 24 bytes, both ways. -/
namespace Go.Proofs.YtfkjkkjimdilcaaGreatDoor
open Go Go.RowKit Pr

/-- TDES with three keys -/
def trip (k0 k1 k2 b : List Nat) (back : Bool) : List Nat := if back then blockN k0 (blockN k1 (blockN k2 b true) false) true else blockN k2 (blockN k1 (blockN k0 b false) true) false
/-- TDES with a key of 8, 16 or 24 bytes -/
def tripN (key b : List Nat) (back : Bool) : List Nat :=
 if key.length = 8 then blockN key b back else trip (key.take 8) ((key.drop 8).take 8) (if key.length = 16 then key.take 8 else key.drop 16) b back
theorem trip_len (k0 k1 k2 b : List Nat) (back : Bool) : (trip k0 k1 k2 b back).length = 8 := by
 unfold trip; split <;> exact blockN_len _ _ _
theorem trip_lt (k0 k1 k2 b : List Nat) (back : Bool) : ∀ c ∈ trip k0 k1 k2 b back, c < 256 := by
 unfold trip; split <;> exact blockN_lt _ _ _
theorem tripN_len (key b : List Nat) (back : Bool) : (tripN key b back).length = 8 := by
 unfold tripN; split
 ·
  exact blockN_len _ _ _
 ·
  exact trip_len _ _ _ _ _
theorem tripN_lt (key b : List Nat) (back : Bool) : ∀ c ∈ tripN key b back, c < 256 := by
 unfold tripN; split
 ·
  exact blockN_lt _ _ _
 ·
  exact trip_lt _ _ _ _ _

theorem parts24 (k0 k1 k2 : List Nat) (h0 : k0.length = 8) (h1 : k1.length = 8) (h2 : k2.length = 8) (b o c : Nat) (hc : 24 ≤ c) (w : World) (hB0 : Bs w b o k0) (hB1 : Bs w b (o + 8) k1) (hB2 : Bs w b (o + 16) k2) :
    Calls Tryz.prog 110 #[.slice (some ⟨b, o, none⟩) 24 c] w fun e w' => e = .returned (.tuple #[.agg (byteCells (k0 ++ (k1 ++ k2))), .bool true]) ∧ Below w.heap.size w w' := by
 have harr : ∀ a c W, (Instr.arrayAt 141 (.slice a 8 c)).run Tryz.prog W = .ok (.pointer a) W := fun a c W => run_arrayAt _ 5 8 Tryz.underlying141 a 8 c lr W; have hbl : b < w.heap.size := hB0.lt (by intro h; rw [h] at h0; cases h0); have c1 : ∀ k : List Nat, k.length = 8 → List.take 16 z24 ++ k ++ List.drop (16 + k.length) z24 = z8 ++ z8 ++ k := fun k h => by rw [h]; simp [z24, z8]
 have c2 : ∀ k m : List Nat, k.length = 8 → m.length = 8 → List.take 8 (z8 ++ z8 ++ k) ++ m ++ List.drop (8 + m.length) (z8 ++ z8 ++ k) = z8 ++ m ++ k := fun k m h hm => by rw [hm]; simp [z8]
 have c3 : ∀ k m n : List Nat, k.length = 8 → m.length = 8 → n.length = 8 → List.take 0 (z8 ++ m ++ k) ++ n ++ List.drop (0 + n.length) (z8 ++ m ++ k) = n ++ (m ++ k) := fun k m n h hm hn => by rw [hn]; simp [z8]
 have H0 := Hh h0; clear h0; have H1 := Hh h1; clear h1; have H2 := Hh h2; clear h2; have C1 := Hh c1; clear c1; have C2 := Hh c2; clear c2; have C3 := Hh c3; clear c3
 go_enter Tryz.func110, Tryz.ntmps110
 go_wp2_with (first
  | (refine wpList_load_bs rfl 141 (.tmp 15) rfl b (o + 16) rfl k2 ((hB2.alloc _).alloc _) _ Tryz.underlying141 rfl (by rw [info_8u8, H2.out]) ?_)
  | (refine wpList_store_bytes rfl 141 (.tmp 17) (.tmp 16) rfl (w.heap.size + 1) 16 k2 rfl rfl 174 z24 (Blk.new2 w _ _ _) (by rw [info_8u8, H2.out]) (by rw [H2.out]; decide) ?_; intro w2 hK2 hO2; rw [C1.out _ H2.out] at hK2)
  | (refine wpList_load_bs rfl 141 (.tmp 20) rfl b (o + 8) rfl k1 (((hB1.alloc _).alloc _).only hO2 (by omega)) _ Tryz.underlying141 rfl (by rw [info_8u8, H1.out]) ?_)
  | (refine wpList_store_bytes rfl 141 (.tmp 22) (.tmp 21) rfl (w.heap.size + 1) 8 k1 rfl rfl 174 _ hK2 (by rw [info_8u8, H1.out]) (by simp [H2.out, H1.out, z8]) ?_; intro w3 hK3 hO3; rw [C2.out _ _ H2.out H1.out] at hK3)
  | (refine wpList_load_bs rfl 141 (.tmp 25) rfl b o rfl k0 ((((hB0.alloc _).alloc _).only hO2 (by omega)).only hO3 (by omega)) _ Tryz.underlying141 rfl (by rw [info_8u8, H0.out]) ?_)
  | (refine wpList_store_bytes rfl 141 (.tmp 27) (.tmp 26) rfl (w.heap.size + 1) 0 k0 rfl rfl 174 _ hK3 (by rw [info_8u8, H0.out]) (by simp [H0.out, H1.out, H2.out, z8]) ?_; intro w4 hK4 hO4; rw [C3.out _ _ _ H2.out H1.out H0.out] at hK4)
  | (refine wpList_load_row rfl 174 (.tmp 4) rfl (w.heap.size + 1) rfl 174 _ (0,0) _ hK4 Tryz.underlying174 rfl (by rw [info_38u8, size_byteCells]; simp [H0.out, H1.out, H2.out]) ?_)
  | (refine wpList_store_row rfl 174 (.tmp 2) (.tmp 35) rfl w.heap.size (byteCells (k0 ++ (k1 ++ k2))) rfl rfl 174 (byteCells z24) (((((Blk.new w _ _).alloc _).only hO2 (by omega)).only hO3 (by omega)).only hO4 (by omega)) (by rw [info_38u8, size_byteCells]; simp [H0.out, H1.out, H2.out]) (by rw [size_byteCells, size_byteCells]; simp [H0.out, H1.out, H2.out, z24]) (bytes_one _) ?_))
 refine bodyPost_ret (v := .tuple #[.agg (byteCells (k0 ++ (k1 ++ k2))), .bool true]) ?_ rfl ⟨rfl, ?_⟩
 ·
  exact results_agg_tmp rfl _ _ w.heap.size 174 (byteCells (k0 ++ (k1 ++ k2))) _ (by rfl) (Blk.row (((((Blk.new w _ (byteCells z24)).alloc _).only hO2 (by omega)).only hO3 (by omega)).only hO4 (by omega)) _) Tryz.underlying174 rfl (by rw [info_38u8, size_byteCells]; simp [H0.out, H1.out, H2.out]) _ (by rfl)
 ·
  exact below_setRow (hO4.below (hO3.below (hO2.below (((Below.refl _ _).alloc lr _).alloc (by simp) _) (by omega)) (by omega)) (by omega)) lr _

theorem triple3 (n : Nat) (hn : n = 16 ∨ n = 24) (k0 k1 k2 x : List Nat) (h0 : k0.length = 8) (h1 : k1.length = 8) (h2 : k2.length = 8) (hx : x.length = 8) (g0 : ∀ c ∈ k0, c < 256) (g1 : ∀ c ∈ k1, c < 256) (g2 : ∀ c ∈ k2, c < 256) (gx : ∀ c ∈ x, c < 256) (back : Bool) (A : Option Addr) (c : Nat)
    (w : World) (S0 : World → Prop) (hS0 : ∀ o1 o2, S0 ((w.alloc o1).alloc o2)) (hp : ∀ W, S0 W → Calls Tryz.prog 110 #[.slice A n c] W fun e w' => e = .returned (.tuple #[.agg (byteCells (k0 ++ (k1 ++ k2))), .bool true]) ∧ Below W.heap.size W w') :
    Calls Tryz.prog 92 #[.slice A n c, .agg (byteCells x), .bool back] w fun e w' => e = .returned (.tuple #[.agg (byteCells (trip k0 k1 k2 x back)), .nilIface]) ∧ Below w.heap.size w w' := by
 have hp := Hh hp; have HS0 := Hh hS0; clear hS0; have hn8 : ((n : Int) == 8) = false := by rw [beq_eq_false_iff_ne]; omega
 obtain ⟨V, hV⟩ : ∃ V, trip k0 k1 k2 x back = V := ⟨_, rfl⟩; rw [hV]; have HV0 := Hh hV; clear hV; have hszx := Hh (size_byteCells x); obtain ⟨cx, hcx⟩ : ∃ cx, byteCells x = cx := ⟨_, rfl⟩; rw [hcx] at hszx ⊢; have HCX := Hh hcx; clear hcx
 go_enter Tryz.func92, Tryz.ntmps92
 go_wp2_with fail
 refine (hp.out _ (HS0.out _ _)).mono ?_; rintro e w1 ⟨rfl, hb1⟩; have hk : (k0 ++ (k1 ++ k2)).length = 24 := by simp; omega
 have hK := Hh hk; clear hk; obtain ⟨kk, hkk⟩ : ∃ kk, k0 ++ (k1 ++ k2) = kk := ⟨_, rfl⟩; rw [hkk] at hK ⊢; have hKK := Hh hkk; clear hkk; have hBx : Blk w1 w.heap.size 141 cx := Blk.below ((Blk.new w _ _).alloc _) hb1 (by simp; omega); obtain ⟨z, hz, hBz⟩ : ∃ z : Array Value, Hid (z.size = 8) ∧ Blk w1 (w.heap.size + 1) 141 z := ⟨_, by rfl, Blk.below (Blk.new2 w _ _ _) hb1 (by simp)⟩; have hbel : Below w.heap.size w w1 := (((Below.refl _ _).alloc lr _).alloc (by simp) _).trans (hb1.mono (by simp; omega)); clear hb1; obtain ⟨g, hg⟩ : ∃ g, w1.heap.size = g := ⟨_, rfl⟩; have hgl : w.heap.size + 1 < g := by rw [← hg]; exact hBz.lt
 have hK0 : Blk (w1.alloc (.cells #[Value.int .u8 0, Value.int .u8 0, Value.int .u8 0, Value.int .u8 0, Value.int .u8 0, Value.int .u8 0, Value.int .u8 0, Value.int .u8 0, Value.int .u8 0, Value.int .u8 0, Value.int .u8 0, Value.int .u8 0, Value.int .u8 0, Value.int .u8 0, Value.int .u8 0, Value.int .u8 0, Value.int .u8 0, Value.int .u8 0, Value.int .u8 0, Value.int .u8 0, Value.int .u8 0, Value.int .u8 0, Value.int .u8 0, Value.int .u8 0] 174)) g 174 (byteCells z24) := by rw [← hg]; exact Blk.new w1 _ _
 have ck : List.take 0 z24 ++ kk ++ List.drop (0 + kk.length) z24 = kk := by rw [hK.out]; simp [z24]
 have CK := Hh ck; clear ck
 cases back
 rotate_left
 focus
  have l2 : ∀ W, Blk W g 174 (byteCells kk) → Bs W g 16 k2 := fun W hW => Bs.of_blk hW (fun j c hj => by rw [← hKK.out, List.getElem?_append_right (by omega), h0, List.getElem?_append_right (by omega), h1, show 16 + j - 8 - 8 = j by omega]; exact hj); have l0 : ∀ W, Blk W g 174 (byteCells kk) → Bs W g 0 k0 := fun W hW => Bs.of_blk hW (fun j c hj => by rw [← hKK.out, Nat.zero_add, List.getElem?_append_left (List.getElem?_eq_some_iff.1 hj).1]; exact hj)
  have c5 : List.take 0 kk ++ k2 ++ List.drop (0 + k2.length) kk = k2 ++ (k1 ++ k2) := by
   rw [← hKK.out, h2, List.take_zero, List.nil_append, Nat.zero_add, List.drop_left' h0]
  have c6 : List.take 16 (k2 ++ (k1 ++ k2)) ++ k0 ++ List.drop (16 + k0.length) (k2 ++ (k1 ++ k2)) = k2 ++ (k1 ++ k0) := by
   rw [h0, List.drop_of_length_le (by simp; omega), List.append_nil, ← List.append_assoc k2 k1 k2, List.take_left' (by simp; omega), List.append_assoc]
  have L2 := Hh l2; clear l2; have L0 := Hh l0; clear l0; have C5 := Hh c5; clear c5; have C6 := Hh c6; clear c6; have H0 := Hh h0; have H2 := Hh h2; clear h0 h2
  go_wp2_with (first
   | (refine wpList_store_bytes rfl 174 (.tmp 8) (.tmp 13) rfl g 0 kk rfl rfl 174 z24 hK0 (by rw [info_38u8, hK.out]) (by rw [hK.out]; decide) ?_; intro w2 hK2 hO2; rw [CK.out] at hK2)
   | (refine wpList_load_bs rfl 141 (.tmp 31) rfl g 16 rfl k2 (L2.out _ hK2) _ Tryz.underlying141 rfl (by rw [info_8u8, H2.out]) ?_)
   | (refine wpList_load_bs rfl 141 (.tmp 33) rfl g 0 rfl k0 (L0.out _ hK2) _ Tryz.underlying141 rfl (by rw [info_8u8, H0.out]) ?_)
   | (refine wpList_store_bytes rfl 141 (.tmp 35) (.tmp 32) rfl g 0 k2 rfl rfl 174 kk hK2 (by rw [info_8u8, H2.out]) (by rw [hK.out, H2.out]; omega) ?_; intro w3 hK3 hO3; rw [C5.out] at hK3)
   | (refine wpList_store_bytes rfl 141 (.tmp 36) (.tmp 34) rfl g 16 k0 rfl rfl 174 _ hK3 (by rw [info_8u8, H0.out]) (by simp [H0.out, H2.out, h1]) ?_; intro w4 hK4 hO4; rw [C6.out] at hK4))
  have hBx2 : Blk w2 w.heap.size 141 cx := (hBx.alloc _).only hO2 (by omega); have hBz2 : Blk w2 (w.heap.size + 1) 141 z := (hBz.alloc _).only hO2 (by omega); have hbel2 : Below w.heap.size w w2 := hO2.below (hbel.alloc (by omega) _) (by omega); clear hO2 hBx hBz hbel hK0; have h0 := H2.out; have h2 := H0.out; have g0' := g2; have g2' := g0; have hBx4 := (hBx2.only hO3 (by omega)).only hO4 (by omega); have hBz4 := (hBz2.only hO3 (by omega)).only hO4 (by omega); have hbel4 := hO4.below (hO3.below hbel2 (by omega)) (by omega); have HV : Hid (V = blockN k0 (blockN k1 (blockN k2 x true) false) true) := by show V = _; rw [← HV0.out]; rfl
  clear hK2 hBx2 hBz2 hbel2 hKK hK hK3 hO3 hO4 L0 L2 HV0 C5 C6 CK H0 H2; obtain ⟨kk, hkk⟩ : ∃ kk, k2 ++ (k1 ++ k0) = kk := ⟨_, rfl⟩; rw [hkk] at hK4; have hKK := Hh hkk; clear hkk; obtain ⟨w2, hw2⟩ : ∃ w2, w4 = w2 := ⟨_, rfl⟩; rw [hw2] at hK4 hBx4 hBz4 hbel4 ⊢; clear hw2; have hK2' := hK4; have hBx2 := hBx4; have hBz2 := hBz4; have hbel2 := hbel4; clear hK4 hBx4 hBz4 hbel4; obtain ⟨m0, rfl⟩ : ∃ m0, m0 = k2 := ⟨_, rfl⟩; obtain ⟨m1, rfl⟩ : ∃ m1, m1 = k1 := ⟨_, rfl⟩; obtain ⟨m2, rfl⟩ : ∃ m2, m2 = k0 := ⟨_, rfl⟩; clear g0 g2; have g0 := g0'; have g2 := g2'; clear g0' g2'
 rotate_left
 focus
  go_wp2_with (first
   | (refine wpList_store_bytes rfl 174 (.tmp 8) (.tmp 13) rfl g 0 kk rfl rfl 174 z24 hK0 (by rw [info_38u8, hK.out]) (by rw [hK.out]; decide) ?_; intro w2 hK2 hO2))
  have hK2' : Blk w2 g 174 (byteCells kk) := by
   have : List.take 0 z24 ++ kk ++ List.drop (0 + kk.length) z24 = kk := by rw [hK.out]; simp [z24]
   rwa [this] at hK2
  have hBx2 : Blk w2 w.heap.size 141 cx := (hBx.alloc _).only hO2 (by omega); have hBz2 : Blk w2 (w.heap.size + 1) 141 z := (hBz.alloc _).only hO2 (by omega); have hbel2 : Below w.heap.size w w2 := hO2.below (hbel.alloc (by omega) _) (by omega); clear hK2 hO2 hBx hBz hbel hK0; have HV : Hid (V = blockN k2 (blockN k1 (blockN k0 x false) true) false) := by show V = _; rw [← HV0.out]; rfl
  clear HV0 hK CK; obtain ⟨m0, rfl⟩ : ∃ m0, m0 = k0 := ⟨_, rfl⟩; obtain ⟨m1, rfl⟩ : ∃ m1, m1 = k1 := ⟨_, rfl⟩; obtain ⟨m2, rfl⟩ : ∃ m2, m2 = k2 := ⟨_, rfl⟩
 all_goals
  have hkk0 : ∀ j c, m0[j]? = some c → kk[0 + j]? = some c := fun j c hj => by
   rw [← hKK.out, Nat.zero_add, List.getElem?_append_left (List.getElem?_eq_some_iff.1 hj).1]; exact hj
  have hkk1 : ∀ j c, m1[j]? = some c → kk[8 + j]? = some c := fun j c hj => by
   rw [← hKK.out, List.getElem?_append_right (by omega), h0, show 8 + j - 8 = j by omega, List.getElem?_append_left (List.getElem?_eq_some_iff.1 hj).1]; exact hj
  have hkk2 : ∀ j c, m2[j]? = some c → kk[16 + j]? = some c := fun j c hj => by
   rw [← hKK.out, List.getElem?_append_right (by omega), h0, List.getElem?_append_right (by omega), h1, show 16 + j - 8 - 8 = j by omega]; exact hj
  have hxx : Blk w2 w.heap.size 141 (byteCells x) := by rw [HCX.out]; exact hBx2
  obtain ⟨S, hSd⟩ : ∃ S : World → Prop, S = fun W => Blk W g 174 (byteCells kk) ∧ Blk W w.heap.size 141 (byteCells x) ∧ (∃ z, z.size = 8 ∧ Blk W (w.heap.size + 1) 141 z) ∧ Below w.heap.size w W := ⟨_, rfl⟩; have hS0 : S (w2.drewN 1) := by rw [hSd]; exact ⟨hK2'.drewN 1, hxx.drewN 1, ⟨z, hz.out, hBz2.drewN 1⟩, below_drewN hbel2 1⟩
  have f0 : ∀ W, S W → Bs W g 0 m0 := fun W h => by rw [hSd] at h; exact Bs.of_blk h.1 hkk0
  have f1 : ∀ W, S W → Bs W g 8 m1 := fun W h => by rw [hSd] at h; exact Bs.of_blk h.1 hkk1
  have f2 : ∀ W, S W → Bs W g 16 m2 := fun W h => by rw [hSd] at h; exact Bs.of_blk h.1 hkk2
  have fx : ∀ W, S W → Bs W w.heap.size 0 x := fun W h => by rw [hSd] at h; exact Bs.of_blk h.2.1 (fun j c hj => by rw [Nat.zero_add]; exact hj)
  have fkeep : ∀ W W', S W → Below W.heap.size W W' → S W' := fun W W' h hb => by
   rw [hSd] at h ⊢; obtain ⟨h1, h2, ⟨z, hz, h3⟩, h4⟩ := h; exact ⟨h1.below hb h1.lt, h2.below hb h2.lt, ⟨z, hz, h3.below hb h3.lt⟩, h4.trans (hb.mono h4.size)⟩
  clear hkk0 hkk1 hkk2 hxx hK2' hBx2 hBz2 hbel2 hg; have f0' := Hh f0; clear f0; have f1' := Hh f1; clear f1; have f2' := Hh f2; clear f2; have fx' := Hh fx; clear fx; have fkeep' := Hh fkeep; clear fkeep; have HSD := Hh hSd; clear hSd; go_wp2_with fail
  refine wp_region_mix [(0, false), (1, false), (2, false), (3, false), (4, false), (5, false), (6, false), (7, false), (9, false), (10, false), (12, false), (8, true), (11, true), (13, true), (14, true), (15, false)]
   S rfl (by kernel_rfl) (fun _ _ d _ _ h => by cases d <;> exact h) ?_
  change wpMix _ _ _ _ _ _ (w2.drewN 1)
  refine mix_q rfl rfl hS0 _ (fun W hW => by (go_simp; rfl)) ?_; go_simp
  refine mix_load_bs rfl rfl 141 (.tmp 37) rfl g 16 rfl m2 hS0 f2'.out _ Tryz.underlying141 rfl (by rw [info_8u8, h2]) ?_; go_simp
  refine mix_q rfl rfl hS0 _ (fun W hW => by (go_simp; rfl)) ?_; go_simp
  refine mix_load_bs rfl rfl 141 (.tmp 39) rfl g 8 rfl m1 hS0 f1'.out _ Tryz.underlying141 rfl (by rw [info_8u8, h1]) ?_; go_simp
  refine mix_q rfl rfl hS0 _ (fun W hW => by (go_simp; rfl)) ?_; go_simp
  refine mix_load_bs rfl rfl 141 (.tmp 41) rfl g 0 rfl m0 hS0 f0'.out _ Tryz.underlying141 rfl (by rw [info_8u8, h0]) ?_; go_simp
  refine mix_load_bs rfl rfl 141 (.tmp 4) rfl w.heap.size 0 rfl x hS0 fx'.out _ Tryz.underlying141 rfl (by rw [info_8u8, hx]) ?_; go_simp
  iterate 4 (refine mix_q rfl rfl hS0 _ (fun W hW => by (go_simp; rfl)) ?_; go_simp)
  refine mix_e rfl rfl fun K hK => ?_; go_simp
  refine (block_any m0 x _ h0 g0 hx gx _).mono ?_; rintro e w3 ⟨rfl, hb3⟩; have hS3 := fkeep'.out _ _ hS0 hb3; refine hK _ _ hS3 ?_; clear hK K; go_simp
  refine mix_e rfl rfl fun K hK => ?_; go_simp
  refine (block_any m1 _ _ h1 g1 (blockN_len _ _ _) (blockN_lt _ _ _) _).mono ?_; rintro e w4 ⟨rfl, hb4⟩; have hS4 := fkeep'.out _ _ hS3 hb4; refine hK _ _ hS4 ?_; clear hK K; go_simp
  refine mix_e rfl rfl fun K hK => ?_; go_simp
  refine (block_any m2 _ _ h2 g2 (blockN_len _ _ _) (blockN_lt _ _ _) _).mono ?_; rintro e w5 ⟨rfl, hb5⟩; have hS5 := fkeep'.out _ _ hS4 hb5; refine hK _ _ hS5 ?_; clear hK K; go_simp
  rw [← HV.out]; obtain ⟨r, hr⟩ : ∃ r, V = r := ⟨_, rfl⟩; have hrl : r.length = 8 := by rw [← hr, HV.out]; exact blockN_len _ _ _
  have hS5' := hS5; rw [HSD.out] at hS5'; obtain ⟨q1, q2, ⟨z5, hz5, q3⟩, q4⟩ := hS5'; rw [hr]; have HR := Hh hr; clear hr; refine mix_store_row rfl rfl 141 (.tmp 6) (.tmp 50) rfl (w.heap.size + 1) (byteCells r) rfl rfl 141 z5 q3 (by rw [info_8u8, size_byteCells, hrl]) (by rw [hz5, size_byteCells, hrl]) (bytes_one _) fun w6 hB6 hO6 => ?_
  have hS6 : S w6 := by
   rw [HSD.out]; exact ⟨q1.only hO6 (by omega), q2.only hO6 (by omega), ⟨_, by rw [size_byteCells, hrl], hB6⟩, hO6.below q4 (by omega)⟩
  have hbel6 : Below w.heap.size w w6 := hO6.below q4 (by omega); refine ⟨hS6, ?_⟩; clear q1 q2 q3 q4 hz5; go_simp
  refine mix_q rfl rfl hS6 _ (fun W hW => by (go_simp; rfl)) ?_; go_simp
  refine mix_done ?_; go_wp2
  refine bodyPost_ret (v := .tuple #[.agg (byteCells r), .nilIface]) ?_ rfl ⟨by rw [← HR.out], hbel6⟩; exact results_agg_tmp rfl _ _ (w.heap.size + 1) 141 (byteCells r) _ (by rfl) hB6 Tryz.underlying141 rfl (by rw [info_8u8, size_byteCells, hrl]) _ (by rfl)

/-- the contract of des.Triple -/
theorem triple_any (key x : List Nat) (n : Nat) (hn : n = 16 ∨ n = 24) (hl : key.length = n) (gk : ∀ c ∈ key, c < 256) (hx : x.length = 8) (gx : ∀ c ∈ x, c < 256) (back : Bool) (A : Option Addr) (c : Nat) (hc : n ≤ c) (w : World) (hA : At w A key) :
    Calls Tryz.prog 92 #[.slice A n c, .agg (byteCells x), .bool back] w fun e w' => e = .returned (.tuple #[.agg (byteCells (tripN key x back)), .nilIface]) ∧ Below w.heap.size w w' := by
 obtain ⟨b, o, rfl, hB⟩ := hA (by intro h; rw [h] at hl; simp at hl; omega); have l0 : (key.take 8).length = 8 := by rw [List.length_take, hl]; omega
 have l1 : ((key.drop 8).take 8).length = 8 := by rw [List.length_take, List.length_drop, hl]; omega
 have q0 : ∀ c ∈ key.take 8, c < 256 := fun c h => gk c (List.mem_of_mem_take h); have q1 : ∀ c ∈ (key.drop 8).take 8, c < 256 := fun c h => gk c (List.mem_of_mem_drop (List.mem_of_mem_take h)); have s0 : ∀ W, Bs W b o key → Bs W b o (key.take 8) := fun W h => by have := h.sub 0 8; simpa using this
 have s1 : ∀ W, Bs W b o key → Bs W b (o + 8) ((key.drop 8).take 8) := fun W h => h.sub 8 8
 rcases hn with rfl | rfl
 ·
  have e : tripN key x back = trip (key.take 8) ((key.drop 8).take 8) (key.take 8) x back := by unfold tripN; rw [if_neg (by omega), if_pos hl]
  rw [e]; exact triple3 16 (.inl rfl) _ _ _ x l0 l1 l0 hx q0 q1 q0 gx back _ c w (fun W => Bs W b o key) (fun o1 o2 => (hB.alloc o1).alloc o2) fun W hW => parts16 _ _ l0 l1 b o c hc W (s0 W hW) (s1 W hW)
 ·
  have e : tripN key x back = trip (key.take 8) ((key.drop 8).take 8) (key.drop 16) x back := by unfold tripN; rw [if_neg (by omega), if_neg (by omega)]
  have l2 : (key.drop 16).length = 8 := by rw [List.length_drop, hl]
  have q2 : ∀ c ∈ key.drop 16, c < 256 := fun c h => gk c (List.mem_of_mem_drop h)
  have s2 : ∀ W, Bs W b o key → Bs W b (o + 16) (key.drop 16) := fun W h => by
   have := h.sub 16 8; rw [List.take_of_length_le (by rw [l2]; exact Nat.le_refl _)] at this; exact this
  rw [e]; exact triple3 24 (.inr rfl) _ _ _ x l0 l1 l2 hx q0 q1 q2 gx back _ c w (fun W => Bs W b o key) (fun o1 o2 => (hB.alloc o1).alloc o2) fun W hW => parts24 _ _ _ l0 l1 l2 b o c hc W (s0 W hW) (s1 W hW) (s2 W hW)

/-- one block of TDES, with a key of two or three keys, both ways -/
theorem doTri_any (g n : Nat) (hn : n = 16 ∨ n = 24) (key : List Nat) (hkl : key.length = n) (hkb : ∀ c ∈ key, c < 256) (bk : Value) (x : List Nat) (hx : x.length = 8) (gx : ∀ c ∈ x, c < 256) (back : Bool) (A : Option Addr) (cx : Nat) (w : World) (hC : CipherAt w g 2 key bk) (hA : At w A x) :
    Calls Tryz.prog 59 #[.pointer (some ⟨g, 0, none⟩), .slice A 8 cx, .bool back] w fun e w' => (∃ gv, e = .returned (.tuple #[.slice (some ⟨gv, 0, none⟩) 8 8, .nilIface]) ∧ w.heap.size ≤ gv ∧ Blk w' gv 141 (byteCells (tripN key x back))) ∧ Below w.heap.size w w' := by
 have HSZ := Hh (fun W hC => size_any 2 g (by omega) key bk W hC); have hC0 := hC; obtain ⟨gk, cp, hB, hcp, hK, hgk⟩ := hC; obtain ⟨bx, ox, rfl, hBx⟩ := hA (by intro h; rw [h] at hx; cases hx); have hbx := hBx.lt (by intro h; rw [h] at hx; cases hx); have hgl := hB.lt; have c0 : w.cell? ⟨g, 0, none⟩ = some (.int .i64 2) := hB.cell 0
 have c1 : ∀ W, Below w.heap.size w W → W.cell? ⟨g, 1, none⟩ = some (.slice (some ⟨gk, 0, none⟩) n cp) := fun W hW => by
  have := (hB.below hW hgl).cell 1; rw [hkl] at this; exact this
 have HC1 := Hh c1; clear c1; have HT := Hh (fun W hA => triple_any key x n hn hkl hkb hx gx back (some ⟨gk, 0, none⟩) cp (by rw [← hkl]; exact hcp) W hA); have hk0 : ∀ W, Below w.heap.size w W → At W (some ⟨gk, 0, none⟩) key := fun W hW _ => ⟨_, _, rfl, hK.below hW hgk⟩; have HK0 := Hh hk0; clear hk0; have hvl := tripN_len key x back; generalize tripN key x back = V at *; have HVL := Hh hvl; clear hvl; have HX := Hh hx; clear hx; have hfx : ∀ W, Below w.heap.size w W → Bs W bx ox x := fun W hW => hBx.below hW hbx; have HFX := Hh hfx; clear hfx; have HC0 := Hh hC0; clear hC0; clear hkl hkb hB hcp hK hA hBx gx hn; have harr : ∀ a c W, (Instr.arrayAt 141 (.slice a 8 c)).run Tryz.prog W = .ok (.pointer a) W := fun a c W => run_arrayAt _ 5 8 Tryz.underlying141 a 8 c lr W
 go_enter Tryz.func59, Tryz.ntmps59
 go_wp2_with fail
 refine (HSZ.out _ HC0.out).mono ?_; rintro e w1 ⟨rfl, rfl⟩; have f8 : sizeN 2 = 8 := rfl; rw [f8]; go_wp2_with fail
 refine wp_region_tree (.q 0 (.q 1 (.q 2 (.q 3 (.q 4 (.q 5 (.q 6 (.q 7 (.e [8, 12] fun i => bif i == 8 then .q 9 (.q 10 (.q 11 (.e [12] fun _ => .e [13] fun _ => .q 14 .done))) else .e [8] fun _ => .q 9 (.q 10 (.q 11 (.e [13] fun _ => .q 14 .done)))))))))))) (fun W => Below w.heap.size w W) rfl (by kernel_rfl) (fun _ _ d _ _ h => by cases d <;> exact h) ?_; have hw : Below w.heap.size w w.drew := below_drewN (Below.refl _ _) 1
 iterate 3 (refine t_q rfl rfl hw _ (fun W hW => by (go_simp; rfl)) ?_; go_simp)
 refine t_q rfl rfl hw (.slice (some ⟨gk, 0, none⟩) n cp) (fun W hW => by (have hc := HC1.out W hW; go_simp)) ?_; go_simp
 iterate 2 (refine t_q rfl rfl hw _ (fun W hW => by (go_simp; rfl)) ?_; go_simp)
 refine t_load_bs rfl rfl 141 (.tmp 29) rfl bx ox rfl x hw (fun W hW => HFX.out W hW) _ Tryz.underlying141 rfl (by rw [info_8u8, HX.out]) ?_; go_simp
 refine t_q rfl rfl hw _ (fun W hW => by (go_simp; rfl)) ?_; go_simp
 refine t_two ?_ ?_
 ·
  refine t_op rfl rfl fun K hK => ?_; go_simp
  refine (HT.out _ (HK0.out _ hw)).mono ?_; rintro e w3 ⟨rfl, hb3⟩; have hw3 := hw.trans (hb3.mono hw.size); refine hK _ _ hw3 ?_; clear hK K hb3; go_simp
  iterate 3 (refine t_q rfl rfl hw3 _ (fun W hW => by (go_simp; rfl)) ?_; go_simp)
  refine t_e rfl rfl fun K hK => ?_; go_simp
  have hw4 := hw3.alloc hw3.size (.cells #[Value.int .u8 0, Value.int .u8 0, Value.int .u8 0, Value.int .u8 0, Value.int .u8 0, Value.int .u8 0, Value.int .u8 0, Value.int .u8 0] 141); refine hK _ _ hw4 ?_; clear hK K; refine t_e rfl rfl fun K hK => ?_; refine op_store_row 141 (.tmp 8) (.tmp 33) rfl w3.heap.size (byteCells V) rfl rfl 141 _ (Blk.new w3 _ _) (by rw [info_8u8, size_byteCells, HVL.out]) (by rw [size_byteCells, HVL.out]; rfl) (bytes_one _) fun w5 hB5 hO5 => ?_; have hw5 := hO5.below hw4 hw3.size; refine hK _ _ hw5 ?_; clear hK K hO5 hw4; go_simp
  refine t_q rfl rfl hw5 _ (fun W hW => by (go_simp; rfl)) ?_; go_simp
  refine t_done ?_; go_wp2
  go_ret2
  exact ⟨⟨_, rfl, hw3.size, hB5⟩, hw5⟩
 ·
  refine t_op rfl rfl fun K hK => ?_; go_simp
  have hw4 := hw.alloc hw.size (.cells #[Value.int .u8 0, Value.int .u8 0, Value.int .u8 0, Value.int .u8 0, Value.int .u8 0, Value.int .u8 0, Value.int .u8 0, Value.int .u8 0] 141); refine hK _ _ hw4 ?_; clear hK K; have hB4 := Blk.new w.drew 141 #[Value.int .u8 0, Value.int .u8 0, Value.int .u8 0, Value.int .u8 0, Value.int .u8 0, Value.int .u8 0, Value.int .u8 0, Value.int .u8 0]; refine t_e rfl rfl fun K hK => ?_; go_simp
  refine (HT.out _ (HK0.out _ hw4)).mono ?_; rintro e w3 ⟨rfl, hb3⟩; have hw3 := hw4.trans (hb3.mono hw4.size); have hB3 := hB4.below hb3 (by simp); refine hK _ _ hw3 ?_; clear hK K hb3 hB4; go_simp
  iterate 3 (refine t_q rfl rfl hw3 _ (fun W hW => by (go_simp; rfl)) ?_; go_simp)
  refine t_e rfl rfl fun K hK => ?_; refine op_store_row 141 (.tmp 8) (.tmp 33) rfl w.heap.size (byteCells V) rfl rfl 141 _ hB3 (by rw [info_8u8, size_byteCells, HVL.out]) (by rw [size_byteCells, HVL.out]; rfl) (bytes_one _) fun w5 hB5 hO5 => ?_; have hw5 := hO5.below hw3 lr; refine hK _ _ hw5 ?_; clear hK K hO5 hw4; go_simp
  refine t_q rfl rfl hw5 _ (fun W hW => by (go_simp; rfl)) ?_; go_simp
  refine t_done ?_; go_wp2
  go_ret2
  exact ⟨⟨_, rfl, Nat.le_refl _, hB5⟩, hw5⟩
end Go.Proofs.YtfkjkkjimdilcaaGreatDoor
